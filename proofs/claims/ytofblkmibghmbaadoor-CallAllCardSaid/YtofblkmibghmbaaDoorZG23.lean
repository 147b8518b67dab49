/-
  Layer 23: the document's reading; calls by numbers; CallAll, CallBack, CallTexts return true.
  Conditions: the variables of the host's library hold what the program's text lays into them.
-/
import Derived.Test.YtofblkmibghmbaaDoorZE23
set_option linter.unusedVariables false
set_option linter.unusedSimpArgs false
set_option maxRecDepth 100000
namespace Go.Proofs.YtofblkmibghmbaaDoor
open Go.RowKit
theorem hash_beq (c : UInt8) (r : List UInt8) : (((c.toNat : Nat) : Int) == 35) = hashC (c :: r) := by
  have e : hashC (c :: r) = decide (c = 35) := by
    unfold hashC
    simp only [List.isPrefixOf, Bool.and_true]
    by_cases h : c = 35
    · subst h; rfl
    · rw [decide_eq_false h]; exact beq_eq_false_iff_ne.2 fun e => h e.symm
  rw [e]
  by_cases h : c = 35
  · subst h; rfl
  · rw [decide_eq_false h]
    refine beq_eq_false_iff_ne.2 fun e => h (UInt8.toNat.inj ?_)
    have e2 : (35 : UInt8).toNat = 35 := rfl
    rw [e2]; omega
section
variable {w0 : World} {s : List UInt8}
theorem b3_56 {w : World} {q5 q2 : Nat} {c : Cl} (ha : I64 c.a) (hw : Below w0.heap.size w0 w) (hr : finC s c = refC s) :
    V56.b3 w0.heap.size (IsV w0 (readV (refC s))) (bstr s) q5 c.k c.a c.b q2 0 0 0 w := by
  unfold V56.b3
  rw [← hr]
  refine call_gives hw (fun _ _ _ => gives58 c) fun w1 _ h1 => ⟨_, rfl, ?_⟩
  unfold finC
  by_cases hm : mayC c = true
  · rw [hm, if_pos (show (!true) = false from rfl)]
    refine call_gives h1 (fun _ _ h => gives60 (c := c) ha) fun w2 _ h2 => ⟨_, rfl, ?_⟩
    rw [beqs rfl]
    by_cases ht : textC c = s
    · rw [decide_eq_true ht, if_neg (show ¬ (!true) = true from Bool.false_ne_true), if_pos ⟨rfl, ht⟩]
      exact ret_is h2 rfl
    · rw [decide_eq_false ht, if_pos (show (!false) = true from rfl), if_neg (fun h => ht h.2)]
      exact ret_is h2 rfl
  · have hm' : mayC c = false := by simpa using hm
    rw [hm', if_neg (show ¬ (!false) = false from fun h => by cases h), if_neg (fun h => by cases h.1)]
    exact ret_is h1 rfl
variable (hs : s.length ≤ 60)
include hs
theorem gives56a {w : World} (hw0 : w = w0) : Gives Tryd.prog 56 [.string (bstr s)] w (readV (refC s)) := by
  subst hw0
  refine gives_of (V56.sound ?_)
  unfold V56.vc
  intro q2 _
  rw [bstr_size, if_neg (by simp; omega)]
  refine call_cut (Below.refl _ _) (by omega) fun g c w1 e1 hc => ⟨_, _, _, rfl, ?_⟩
  have h1 := e1.after (Below.refl _ _)
  have hpl : (piecesS s).length = (splitS s).2.length + 1 := rfl
  refine ⟨_, rfl, by omega, by omega, _, hc 0 _ rfl, ?_⟩
  refine call_gives h1 (fun _ _ _ => gives94 (splitS s).1) fun w2 e2 h2 => ⟨_, rfl, fun q5 _ => ?_⟩
  have hc2 : ∀ j p, (piecesS s)[j]? = some p → w2.cell? ⟨g, j, none⟩ = some (.string (bstr p)) := fun j p hj => e2.cell (hc j p hj)
  have hr : refC s = if kindC (splitS s).1 = 0 ∨ 2 < (splitS s).2.length then noC else tailC s (kindC (splitS s).1) (splitS s).2 := by unfold refC; rw [if_neg (by omega)]
  by_cases hk : kindC (splitS s).1 = 0
  · rw [if_neg (by rw [hk]; decide)]
    refine ret_is h2 ?_
    rw [hr, if_pos (.inl hk)]; rfl
  rw [if_pos (beq_no hk)]
  by_cases h3 : 2 < (splitS s).2.length
  · rw [if_pos (by simp; omega)]
    refine ret_is h2 ?_
    rw [hr, if_pos (.inr h3)]; rfl
  rw [if_neg (by simp; omega)]
  rw [if_neg (by omega)] at hr
  generalize hkd : kindC (splitS s).1 = kd at *
  cases hsp : (splitS s).2 with
  | nil =>
    rw [hsp] at hpl hr
    simp only [List.length_nil] at hpl
    rw [if_neg (by rw [hpl]; decide)]
    unfold V56.b2
    rw [if_neg (by rw [hpl]; decide)]
    exact b3_56 (c := ⟨kd, 0, 0⟩) (by unfold I64; dsimp only; omega) h2 (by rw [hr]; rfl)
  | cons x r =>
    rw [hsp] at hpl hr h3
    simp only [List.length_cons] at hpl h3
    have hx : (piecesS s)[1]? = some x := by unfold piecesS; rw [hsp]; rfl
    rw [if_pos (by rw [hpl]; simp; omega)]
    refine ⟨_, rfl, by omega, by omega, _, hc2 1 x hx, ?_⟩
    -- behind the first number
    have two : ∀ (b' : Int) (w3 : World), b' = flagC kd x → (valueC (argC kd x)).2 = true → Below w.heap.size w w3 → (∀ j p, (piecesS s)[j]? = some p → w3.cell? ⟨g, j, none⟩ = some (.string (bstr p))) →
        V56.b2 w.heap.size (IsV w (readV (refC s))) (bstr s) (some ⟨g, 0, none⟩) (piecesS s).length c q5 kd (valueC (argC kd x)).1 b' q2 0 0 0 w3 := by
      intro b' w3 hb' hv hw3 hc3
      unfold V56.b2
      cases r with
      | nil =>
        simp only [List.length_nil] at hpl
        rw [if_neg (by rw [hpl]; decide)]
        refine b3_56 (c := ⟨kd, (valueC (argC kd x)).1, b'⟩) (valueC_rng _) hw3 ?_
        rw [hr, tailC, hv, if_neg (by decide), hb']
      | cons y r =>
        simp only [List.length_cons] at hpl h3
        have hr0 : r = [] := List.eq_nil_of_length_eq_zero (by omega)
        subst hr0
        simp only [List.length_nil] at hpl
        have hy : (piecesS s)[2]? = some y := by unfold piecesS; rw [hsp]; rfl
        rw [if_pos (by rw [hpl]; decide)]
        refine ⟨_, rfl, by omega, by omega, _, hc3 2 y hy, ?_⟩
        refine call_gives hw3 (fun _ _ _ => gives95 y) fun w4 _ h4 => ⟨_, _, rfl, ?_⟩
        by_cases hvy : (valueC y).2 = true
        · rw [hvy, if_neg (show ¬ (!true) = true from Bool.false_ne_true)]
          refine b3_56 (c := ⟨kd, (valueC (argC kd x)).1, (valueC y).1⟩) (valueC_rng _) h4 ?_
          rw [hr, tailC, hv, if_neg (by decide), hvy, if_neg (by decide)]
        · have hvy' : (valueC y).2 = false := by simpa using hvy
          rw [hvy', if_pos (show (!false) = true from rfl)]
          refine ret_is h4 ?_
          rw [hr, tailC, hv, if_neg (by decide), hvy', if_pos rfl]; rfl
    have one : ∀ (b' : Int) (w3 : World), b' = flagC kd x → Below w.heap.size w w3 → (∀ j p, (piecesS s)[j]? = some p → w3.cell? ⟨g, j, none⟩ = some (.string (bstr p))) →
        V56.b1 w.heap.size (IsV w (readV (refC s))) (bstr s) (some ⟨g, 0, none⟩) (piecesS s).length c (bstr (argC kd x)) q5 kd 0 b' q2 0 0 0 w3 := by
      intro b' w3 hb' hw3 hc3
      unfold V56.b1
      refine call_gives hw3 (fun _ _ _ => gives95 (argC kd x)) fun w4 e4 h4 => ⟨_, _, rfl, ?_⟩
      by_cases hv : (valueC (argC kd x)).2 = true
      · rw [hv, if_neg (show ¬ (!true) = true from Bool.false_ne_true)]
        exact two b' w4 hb' hv h4 fun j p hj => e4.cell (hc3 j p hj)
      · have hv' : (valueC (argC kd x)).2 = false := by simpa using hv
        rw [hv', if_pos (show (!false) = true from rfl)]
        refine ret_is h4 ?_
        rw [hr]
        cases r with
        | nil => rw [tailC, hv', if_pos rfl]; rfl
        | cons y r => rw [tailC, hv', if_pos rfl]; rfl
    have plain : markC kd x = false → V56.b0 w.heap.size (IsV w (readV (refC s))) (bstr s) (some ⟨g, 0, none⟩) (piecesS s).length c (bstr x) false q5 kd 0 0 q2 0 0 0 w2 := fun hm => by
      unfold V56.b0
      rw [if_neg Bool.false_ne_true]
      have ea : argC kd x = x := by unfold argC; rw [hm]; rfl
      have := one 0 w2 (by unfold flagC; rw [hm]; rfl) h2 hc2
      rw [ea] at this
      exact this
    by_cases h2' : kd = 2
    · rw [if_pos (by simpa using h2'), bstr_size]
      cases x with
      | nil =>
        rw [show decide ((([] : List UInt8).length : Int) > 0) = false from rfl]
        exact plain (by unfold markC; simp)
      | cons y t =>
        rw [show decide ((((y :: t : List UInt8).length : Nat) : Int) > 0) = true from decide_eq_true (by simp)]
        have hm : markC kd (y :: t) = true := by unfold markC; rw [decide_eq_true h2']; rfl
        have ea : argC kd (y :: t) = t := by unfold argC; rw [hm]; rfl
        have ef : flagC kd (y :: t) = if hashC (y :: t) = true then 1 else 0 := by unfold flagC; simp [hm]
        rw [ea, ef] at one
        unfold V56.b0
        rw [if_pos rfl, bext_tail, bstr_size]
        refine ⟨y, by omega, by rw [bget]; rfl, ?_⟩
        rw [hash_beq y t]
        by_cases hh : hashC (y :: t) = true
        · rw [if_pos hh]
          rw [if_pos hh] at one
          exact ⟨by omega, by simp; omega, one 1 w2 rfl h2 hc2⟩
        · rw [if_neg hh]
          rw [if_neg hh] at one
          exact ⟨by omega, by simp; omega, one 0 w2 rfl h2 hc2⟩
    · rw [if_neg (by simpa using h2')]
      exact plain (by unfold markC; rw [decide_eq_false h2']; rfl)
end
theorem gives56 {w : World} (s : List UInt8) : Gives Tryd.prog 56 [.string (bstr s)] w (readV (readC s)) := by
  rw [← ref_read]
  by_cases h : s.length ≤ 60
  · exact gives56a h rfl
  · refine gives_of (V56.sound ?_)
    unfold V56.vc
    intro q2 _
    rw [bstr_size, if_pos (by simp; omega)]
    refine ret_is (Below.refl _ _) ?_
    unfold refC; rw [if_pos (by omega)]; rfl
theorem awake23 : readC [102, 114, 101, 101, 32, 35, 49, 50] = (⟨2, 12, 1⟩, true) ∧ textC ⟨6, 0, 50⟩ = [114, 117, 110, 32, 48, 32, 53, 48] := by
  have e : textC ⟨2, 12, 1⟩ = [102, 114, 101, 101, 32, 35, 49, 50] := by
    have h : Lib.itoa 12 = [49, 50] := by kernel_rfl
    show joinS (wordC 2) [(if (1 : Int) = 0 then 64 else 35) :: Lib.itoa 12] = _
    rw [h]; rfl
  refine ⟨?_, ?_⟩
  · rw [← e]; exact read_text rfl (by unfold I64; dsimp only; omega)
  · have h : Lib.itoa 0 = [48] := by kernel_rfl
    have h2 : Lib.itoa 50 = [53, 48] := by kernel_rfl
    show joinS (wordC 6) [Lib.itoa 0, Lib.itoa 50] = _
    rw [h, h2]; rfl
theorem gives54 {w : World} (hl : Libs w) : Gives Tryd.prog 54 [] w (.bool true) := by
  obtain ⟨t1, t2⟩ := awake23
  refine gives_of (V54.sound ?_)
  unfold V54.vc
  refine call_gives (Below.refl _ _) (fun _ _ h => gives55 (s := [102, 114, 101, 101, 32, 35, 49, 50]) (hl.on h) (by decide)) fun w1 _ h1 => ⟨_, _, _, _, rfl, fun q1 _ => ?_⟩
  rw [t1]
  refine call_gives h1 (fun _ _ h => gives59 (c := ⟨6, 0, 50⟩) (hl.tabs.on h) (by unfold I64; dsimp only; omega)) fun w2 _ h2 => ⟨_, rfl, ?_⟩
  rw [beqs (m := [114, 117, 110, 32, 48, 32, 53, 48]) (x := { data := #[114, 117, 110, 32, 48, 32, 53, 48] }) rfl, decide_eq_true t2, if_pos rfl, if_pos rfl, if_pos (by decide)]
  exact call_gives h2 (fun _ _ h => gives57 ⟨2, 12, 1⟩) fun w3 _ h3 => ⟨_, rfl, ret_is h3 rfl⟩
end Go.Proofs.YtofblkmibghmbaaDoor
