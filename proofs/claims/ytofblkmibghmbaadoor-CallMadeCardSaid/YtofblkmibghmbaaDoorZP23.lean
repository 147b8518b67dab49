import Derived.Test.YtofblkmibghmbaaDoorZVE
import Derived.Lib.AtoiAll
import Derived.Lib.AtoiAllCases
import Derived.Lib.SlTrimSet
import Derived.Lib.ItoaLen
import Derived.Lib.Split
/-
  Layer 23, plain: calls, their texts, what a text is read as.
  Conditions: none.
-/
set_option linter.unusedVariables false
set_option linter.unusedSimpArgs false
set_option maxRecDepth 20000
namespace Go.Proofs.YtofblkmibghmbaaDoor
structure Cl where
  k : Int
  a : Int
  b : Int
def I64 (n : Int) : Prop := -9223372036854775808 ≤ n ∧ n ≤ 9223372036854775807
def mayC (c : Cl) : Bool :=
  if c.k = 1 ∨ c.k = 7 ∨ c.k = 8 ∨ c.k = 9 then decide (c.b = 0) else if c.k = 2 then decide (c.b = 0 ∨ c.b = 1)
  else if c.k = 3 ∨ c.k = 4 ∨ c.k = 5 then decide (c.a = 0 ∧ c.b = 0) else if c.k = 6 then decide (1 ≤ c.b ∧ c.b ≤ 1000) else false
def wordC (k : Int) : List UInt8 :=
  if k = 1 then [97, 108, 108, 111, 99] else if k = 2 then [102, 114, 101, 101] else if k = 3 then [102, 108, 117, 115, 104] else if k = 4 then [111, 110] else if k = 5 then [111, 102, 102]
  else if k = 6 then [114, 117, 110] else if k = 7 then [115, 104, 114, 105, 110, 107] else if k = 8 then [115, 99, 97, 110] else if k = 9 then [119, 97, 107, 101] else []
def restC (c : Cl) : List (List UInt8) :=
  if c.k = 2 then [(if c.b = 0 then 64 else 35) :: Lib.itoa c.a] else if c.k = 3 ∨ c.k = 4 ∨ c.k = 5 then [] else if c.k = 6 then [Lib.itoa c.a, Lib.itoa c.b] else [Lib.itoa c.a]
def joinS : List UInt8 → List (List UInt8) → List UInt8
  | p, [] => p
  | p, q :: r => p ++ 32 :: joinS q r
def textC (c : Cl) : List UInt8 := if mayC c = true then joinS (wordC c.k) (restC c) else []
theorem may_cases {c : Cl} (h : mayC c = true) : ((c.k = 1 ∨ c.k = 7 ∨ c.k = 8 ∨ c.k = 9) ∧ c.b = 0) ∨ (c.k = 2 ∧ (c.b = 0 ∨ c.b = 1)) ∨ ((c.k = 3 ∨ c.k = 4 ∨ c.k = 5) ∧ c.a = 0 ∧ c.b = 0) ∨ (c.k = 6 ∧ 1 ≤ c.b ∧ c.b ≤ 1000) := by
  unfold mayC at h
  split at h
  · rename_i h1; exact .inl ⟨h1, by simpa using h⟩
  split at h
  · rename_i h1; exact .inr (.inl ⟨h1, by simpa using h⟩)
  split at h
  · rename_i h1; exact .inr (.inr (.inl ⟨h1, by simpa using h⟩))
  split at h
  · rename_i h1; exact .inr (.inr (.inr ⟨h1, by simpa using h⟩))
  · cases h
def splitS : List UInt8 → List UInt8 × List (List UInt8)
  | [] => ([], [])
  | c :: r => if c = 32 then ([], (splitS r).1 :: (splitS r).2) else (c :: (splitS r).1, (splitS r).2)
theorem splitS_free : ∀ {p : List UInt8}, (∀ c ∈ p, c ≠ 32) → ∀ r, splitS (p ++ r) = (p ++ (splitS r).1, (splitS r).2)
  | [], _, r => rfl
  | c :: p, h, r => by
    rw [List.cons_append, splitS, if_neg (h c List.mem_cons_self), splitS_free (p := p) (fun x hx => h x (List.mem_cons_of_mem _ hx)) r]; rfl
theorem split_join : ∀ {ps : List (List UInt8)} {p : List UInt8}, (∀ c ∈ p, c ≠ 32) → (∀ q ∈ ps, ∀ c ∈ q, c ≠ 32) → splitS (joinS p ps) = (p, ps)
  | [], p, hp, _ => by
    have := splitS_free hp []
    rw [List.append_nil] at this
    rw [joinS, this]; simp [splitS]
  | q :: r, p, hp, hq => by
    rw [joinS, splitS_free hp, splitS, if_pos rfl, split_join (ps := r) (hq q List.mem_cons_self) (fun x hx => hq x (List.mem_cons_of_mem _ hx))]; simp
theorem index_sp (c : UInt8) (l : List UInt8) : Lib.index (c :: l) [32] = if c = 32 then 0 else if Lib.index l [32] = -1 then -1 else Lib.index l [32] + 1 := by
  have e : ([32] : List UInt8).isPrefixOf (c :: l) = decide (c = 32) := by
    simp only [List.isPrefixOf, Bool.and_true]
    by_cases h : c = 32
    · subst h; rfl
    · rw [decide_eq_false h]; exact beq_eq_false_iff_ne.2 fun e => h e.symm
  have hu : Lib.index (c :: l) [32] = if ([32] : List UInt8).isPrefixOf (c :: l) = true then 0 else if (Lib.index l [32] == -1) = true then -1 else Lib.index l [32] + 1 := rfl
  rw [hu, e]
  by_cases h : c = 32
  · rw [decide_eq_true h, if_pos rfl, if_pos h]
  · rw [decide_eq_false h, if_neg (by decide), if_neg h]
    by_cases h1 : Lib.index l [32] = -1
    · rw [h1]; rfl
    · rw [if_neg h1, if_neg (by simpa using h1)]
theorem split_lib : ∀ l : List UInt8, Lib.split l [32] = (splitS l).1 :: (splitS l).2
  | [] => rfl
  | c :: l => by
    have ih := split_lib l
    have hi := index_sp c l
    by_cases h : c = 32
    · subst h
      rw [if_pos rfl] at hi
      have hc : Lib.count (32 :: l) [32] = 1 + Lib.count l [32] := Lib.count_hit (i := 0) (by simp) hi
      unfold Lib.split at ih ⊢
      rw [hc, Nat.add_comm 1, Lib.splitK, hi, if_neg (by decide)]
      simp only [splitS, if_true]
      rw [← ih]; rfl
    · rw [if_neg h] at hi
      simp only [splitS, if_neg h]
      by_cases h1 : Lib.index l [32] = -1
      · rw [if_pos h1] at hi
        unfold Lib.split at ih ⊢
        rw [Lib.count_miss hi]
        rw [Lib.count_miss h1] at ih
        simp only [Lib.splitK, List.cons.injEq] at ih
        show [c :: l] = (c :: (splitS l).1) :: (splitS l).2
        rw [← ih.1, ← ih.2]
      · rw [if_neg h1] at hi
        obtain ⟨i, hn⟩ : ∃ i : Nat, Lib.index l [32] = i := ⟨(Lib.index l [32]).toNat, by have := Lib.index_ge l [32]; omega⟩
        rw [hn] at hi
        have hc1 := Lib.count_hit (s := l) (sub := [32]) (by simp) hn
        have hc2 := Lib.count_hit (s := c :: l) (sub := [32]) (i := i + 1) (by simp) (by rw [hi]; rfl)
        simp only [List.length_singleton] at hc1 hc2
        rw [List.drop_succ_cons] at hc2
        unfold Lib.split at ih ⊢
        rw [hc1, Nat.add_comm 1, Lib.splitK, hn, if_neg (by simp only [beq_iff_eq]; omega)] at ih
        rw [hc2, Nat.add_comm 1, Lib.splitK, hi, if_neg (by simp only [beq_iff_eq]; omega)]
        simp only [List.length_singleton, Nat.add_zero, Int.toNat_natCast, List.cons.injEq] at ih ⊢
        have e : ((i : Int) + 1).toNat = i + 1 := by omega
        rw [e, ← ih.1, ← ih.2, List.take_succ_cons, List.drop_succ_cons]
        exact ⟨rfl, rfl⟩
theorem itoa_rng (n : Int) : ∀ c ∈ Lib.itoa n, c.toNat = 45 ∨ 48 ≤ c.toNat ∧ c.toNat ≤ 57 := by
  intro c hc
  unfold Lib.itoa at hc
  split at hc
  · rcases List.mem_cons.1 hc with rfl | h
    · exact .inl rfl
    · exact .inr (dec_all _ _ h)
  · exact .inr (dec_all _ _ hc)
theorem fold_ge : ∀ (l : List UInt8) (n : Nat), n ≤ l.foldl (fun n c => n * 10 + (c.toNat - 48)) n
  | [], n => Nat.le_refl n
  | c :: l, n => by
    rw [List.foldl_cons]
    exact Nat.le_trans (by omega) (fold_ge l _)
theorem uint_fold : ∀ (l : List UInt8) (n : Nat), (∀ c ∈ l, 48 ≤ c.toNat ∧ c.toNat ≤ 57) → l.foldl (fun n c => n * 10 + (c.toNat - 48)) n < 18446744073709551616 →
    Lib.parseUint10 n l = .ok (l.foldl (fun n c => n * 10 + (c.toNat - 48)) n)
  | [], n, _, _ => rfl
  | c :: l, n, h, hb => by
    rw [List.foldl_cons] at hb ⊢
    have h1 := fold_ge l (n * 10 + (c.toNat - 48))
    rw [Lib.parseUint10, if_pos (h c List.mem_cons_self), if_neg (by omega), if_neg (by omega)]
    exact uint_fold l _ (fun x hx => h x (List.mem_cons_of_mem _ hx)) hb
theorem mag_dec {u : Nat} (h : u < 18446744073709551616) : Lib.parseMag (Lib.decDigits u) = .ok u := by
  have e : (Lib.decDigits u).foldl (fun n c => n * 10 + (c.toNat - 48)) 0 = u := rdD_dec u
  rw [Lib.parseMag, if_neg (dec_ne u), uint_fold _ _ (dec_all u) (by rw [e]; exact h), e]
theorem atoi_itoa {n : Int} (h : I64 n) : Lib.atoiAll (Lib.itoa n) = .ok n := by
  unfold I64 at h
  unfold Lib.itoa
  split
  · rename_i hn
    unfold Lib.atoiAll
    have e : (45 : UInt8).toNat = 45 := rfl
    simp only [e, or_true, if_true, true_and, not_true_eq_false, false_and, if_false, mag_dec (show n.natAbs < 18446744073709551616 by omega)]
    rw [if_neg (by omega)]
    congr 1; omega
  · rename_i hn
    cases hd : Lib.decDigits n.toNat with
    | nil => exact absurd hd (dec_ne _)
    | cons c r =>
      have hc := dec_all n.toNat c (by rw [hd]; exact List.mem_cons_self)
      unfold Lib.atoiAll
      have e1 : ¬ c.toNat = 43 := by omega
      have e2 : ¬ c.toNat = 45 := by omega
      simp only [e1, e2, or_self, if_false, not_false_eq_true, true_and, false_and, ← hd, mag_dec (show n.toNat < 18446744073709551616 by omega)]
      rw [if_neg (by omega)]
      congr 1; omega
def atoiV (l : List UInt8) : Int := match Lib.atoiAll l with
  | .ok v => v
  | .syntax => 0
  | .range => Lib.atoiSat l
theorem atoiV_rng (l : List UInt8) : I64 (atoiV l) := by
  unfold atoiV I64
  split
  · rename_i v h; have := Lib.atoiAll_bounds h; omega
  · omega
  · have := Lib.atoiSat_bounds l; omega
theorem atoiV_itoa {n : Int} (h : I64 n) : atoiV (Lib.itoa n) = n := by unfold atoiV; rw [atoi_itoa h]
def kindC (p : List UInt8) : Int :=
  if p = wordC 1 then 1 else if p = wordC 2 then 2 else if p = wordC 3 then 3 else if p = wordC 4 then 4 else if p = wordC 5 then 5 else if p = wordC 6 then 6
  else if p = wordC 7 then 7 else if p = wordC 8 then 8 else if p = wordC 9 then 9 else 0
def numP (k : Int) (x : List UInt8) : Int := if k = 2 then atoiV (Lib.trimLeftS x [64, 35]) else atoiV x
def hashC (x : List UInt8) : Bool := [35].isPrefixOf x
def loopC (k : Int) : Nat → Int → Int → List (List UInt8) → Int × Int
  | _, a, b, [] => (a, b)
  | i, a, b, x :: r => loopC k (i + 1) (if i = 0 then numP k x else a) (if i = 1 then numP k x else if k = 2 ∧ hashC x = true then 1 else b) r
def parseC (s : List UInt8) : Cl := ⟨kindC (splitS s).1, (loopC (kindC (splitS s).1) 0 0 0 (splitS s).2).1, (loopC (kindC (splitS s).1) 0 0 0 (splitS s).2).2⟩
theorem numP_rng (k : Int) (x : List UInt8) : I64 (numP k x) := by unfold numP; split <;> exact atoiV_rng _
theorem loopC_rng (k : Int) : ∀ (l : List (List UInt8)) (i : Nat) (a b : Int), I64 a → I64 b → I64 (loopC k i a b l).1 ∧ I64 (loopC k i a b l).2
  | [], i, a, b, ha, hb => ⟨ha, hb⟩
  | x :: r, i, a, b, ha, hb => by
    unfold loopC
    have := numP_rng k x
    refine loopC_rng k r _ _ _ ?_ ?_
    · split <;> assumption
    · split
      · assumption
      · split
        · unfold I64; omega
        · assumption
theorem parseC_rng (s : List UInt8) : I64 (parseC s).a ∧ I64 (parseC s).b := loopC_rng _ _ _ _ _ (by unfold I64; omega) (by unfold I64; omega)
theorem word_free : ∀ k : Int, ∀ c ∈ wordC k, c ≠ 32 := by
  intro k
  unfold wordC
  repeat' split
  all_goals decide
theorem itoa_free (n : Int) : ∀ c ∈ Lib.itoa n, c ≠ 32 := fun c hc e => by
  subst e
  have := itoa_rng n 32 hc
  have e : (32 : UInt8).toNat = 32 := rfl
  omega
theorem rest_free (c : Cl) : ∀ q ∈ restC c, ∀ x ∈ q, x ≠ 32 := by
  intro q hq x hx
  unfold restC at hq
  split at hq
  · rw [List.mem_singleton] at hq; subst hq
    rcases List.mem_cons.1 hx with rfl | h
    · split <;> decide
    · exact itoa_free _ x h
  split at hq
  · cases hq
  split at hq
  · rcases List.mem_cons.1 hq with rfl | h
    · exact itoa_free _ x hx
    · rw [List.mem_singleton] at h; subst h; exact itoa_free _ x hx
  · rw [List.mem_singleton] at hq; subst hq; exact itoa_free _ x hx
theorem split_text {c : Cl} (h : mayC c = true) : splitS (textC c) = (wordC c.k, restC c) := by
  rw [textC, if_pos h]; exact split_join (word_free _) (rest_free c)
theorem kind_word {k : Int} (h : 1 ≤ k ∧ k ≤ 9) : kindC (wordC k) = k := by
  have : k = 1 ∨ k = 2 ∨ k = 3 ∨ k = 4 ∨ k = 5 ∨ k = 6 ∨ k = 7 ∨ k = 8 ∨ k = 9 := by omega
  rcases this with rfl | rfl | rfl | rfl | rfl | rfl | rfl | rfl | rfl <;> decide
theorem may_kind {c : Cl} (h : mayC c = true) : 1 ≤ c.k ∧ c.k ≤ 9 := by rcases may_cases h with h | h | h | h <;> omega
theorem trim_itoa (b : UInt8) (hb : b = 64 ∨ b = 35) (n : Int) : Lib.trimLeftS (b :: Lib.itoa n) [64, 35] = Lib.itoa n := by
  have h1 : ([64, 35] : List UInt8).contains b = true := by rcases hb with rfl | rfl <;> decide
  unfold Lib.trimLeftS
  rw [List.dropWhile_cons, if_pos h1]
  cases hi : Lib.itoa n with
  | nil => rfl
  | cons x r =>
    have hx := itoa_rng n x (by rw [hi]; exact List.mem_cons_self)
    have h2 : ¬ ([64, 35] : List UInt8).contains x = true := by
      intro h
      rw [List.contains_iff_mem] at h
      rcases List.mem_cons.1 h with rfl | h
      · have e : (64 : UInt8).toNat = 64 := rfl
        omega
      · rw [List.mem_singleton] at h; subst h
        have e : (35 : UInt8).toNat = 35 := rfl
        omega
    rw [List.dropWhile_cons, if_neg h2]
theorem Cl.ext2 {c d : Cl} (h1 : c.k = d.k) (h2 : c.a = d.a) (h3 : c.b = d.b) : c = d := by cases c; cases d; simp_all
theorem parse_text {c : Cl} (h : mayC c = true) (ha : I64 c.a) : parseC (textC c) = c := by
  have hk := may_kind h
  have e1 : (parseC (textC c)).k = c.k := by unfold parseC; simp only [split_text h]; exact kind_word hk
  have e2 : (loopC c.k 0 0 0 (restC c)).1 = c.a ∧ (loopC c.k 0 0 0 (restC c)).2 = c.b := by
    unfold restC
    rcases may_cases h with ⟨h1, h2⟩ | ⟨h1, h2⟩ | ⟨h1, h2, h3⟩ | ⟨h1, h2, h3⟩
    · rw [if_neg (by omega), if_neg (by omega), if_neg (by omega)]
      have hk2 : ¬ c.k = 2 := by omega
      simp [loopC, numP, hk2, atoiV_itoa ha, h2]
    · rw [if_pos h1]
      have t1 := trim_itoa 64 (.inl rfl) c.a
      have t2 := trim_itoa 35 (.inr rfl) c.a
      rcases h2 with h2 | h2
      · simp [loopC, numP, h1, h2, hashC, t1, t2, atoiV_itoa ha]
      · simp [loopC, numP, h1, h2, hashC, t1, t2, atoiV_itoa ha]
    · rw [if_neg (by omega), if_pos h1]
      exact ⟨h2.symm, h3.symm⟩
    · rw [if_neg (by omega), if_neg (by omega), if_pos h1]
      have hk2 : ¬ c.k = 2 := by omega
      have hb : I64 c.b := by unfold I64; omega
      simp [loopC, numP, hk2, atoiV_itoa ha, atoiV_itoa hb]
  refine Cl.ext2 e1 ?_ ?_
  · unfold parseC; simp only [split_text h, kind_word hk]; exact e2.1
  · unfold parseC; simp only [split_text h, kind_word hk]; exact e2.2
def noC : Cl × Bool := (⟨0, 0, 0⟩, false)
def readC (s : List UInt8) : Cl × Bool := if mayC (parseC s) = true ∧ textC (parseC s) = s then (parseC s, true) else noC
theorem read_text {c : Cl} (h : mayC c = true) (ha : I64 c.a) : readC (textC c) = (c, true) := by
  unfold readC; rw [parse_text h ha, if_pos ⟨h, rfl⟩]
theorem word_len (k : Int) : (wordC k).length ≤ 6 := by
  unfold wordC
  repeat' split
  all_goals decide
theorem itoa_short {n : Int} (h : I64 n) : (Lib.itoa n).length ≤ 21 := Lib.itoa_length_le n h.1 h.2
end Go.Proofs.YtofblkmibghmbaaDoor
