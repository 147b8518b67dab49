import Derived.Test.YtofblkmibghmbaaDoorZE23
/-
  Layer 23: the document's reading; calls by numbers; CallAll, CallBack, CallTexts return true.
  Conditions: the variables of the host's library hold what the program's text lays into them.
-/
set_option linter.unusedVariables false
set_option linter.unusedSimpArgs false
set_option maxRecDepth 100000
namespace Go.Proofs.YtofblkmibghmbaaDoor
open Go.RowKit
section
variable {w0 : World} {s : List UInt8}
variable (hs : s.length ≤ 60)
include hs
end
def baseM (kd a b t : Int) : Cl :=
  if kd % 32 < 6 then ⟨1, IntKind.wrap .i64 (IntKind.wrap .i64 (IntKind.wrap .i64 (32 * 2 ^ min ((b % 8).toNat) 64) - a % 3) - IntKind.wrap .i64 (5000 * (a / 254))), 0⟩
  else if kd % 32 < 11 then if b % 8 = 0 then ⟨2, a * 32, 0⟩ else ⟨2, a % 12, 1⟩
  else if kd % 32 = 11 then ⟨3, 0, 0⟩ else if kd % 32 = 12 then ⟨4, 0, 0⟩ else if kd % 32 = 13 then ⟨5, 0, 0⟩ else if kd % 32 < 22 then ⟨6, t, 1 + b⟩
  else if kd % 32 < 25 then ⟨7, t, 0⟩ else if kd % 32 < 29 then ⟨8, t, 0⟩ else ⟨9, t, 0⟩
def taskM (a n : Int) : Int := if a % (n + 1) = n ∧ a < 240 then 0 else a % (n + 1)
def madeC (kd a b n : Int) : Cl := baseM kd a b (taskM a n)
theorem base_may {kd a b t : Int} (hb : 0 ≤ b ∧ b < 256) : mayC (baseM kd a b t) = true := by
  unfold baseM
  split
  · rfl
  split
  · split <;> rfl
  split
  · rfl
  split
  · rfl
  split
  · rfl
  split
  · have e : ∀ t, mayC ⟨6, t, 1 + b⟩ = decide (1 ≤ 1 + b ∧ 1 + b ≤ 1000) := fun _ => rfl
    rw [e]; exact decide_eq_true (by omega)
  split
  · rfl
  split <;> rfl
theorem wrap_rng (n : Int) : I64 (IntKind.wrap .i64 n) := by unfold I64; rw [IntKind.wrap_i64]; omega
theorem base_rng {kd a b t : Int} (ha : 0 ≤ a ∧ a < 256) (ht : I64 t) : I64 (baseM kd a b t).a := by
  unfold baseM
  split
  · exact wrap_rng _
  split
  · split
    · unfold I64; dsimp only; omega
    · unfold I64; dsimp only; omega
  split
  · unfold I64; dsimp only; omega
  split
  · unfold I64; dsimp only; omega
  split
  · unfold I64; dsimp only; omega
  split
  · exact ht
  split
  · exact ht
  split <;> exact ht
theorem gives61 {w : World} {kd a b n : Int} (hk : 0 ≤ kd ∧ kd < 256) (ha : 0 ≤ a ∧ a < 256) (hb : 0 ≤ b ∧ b < 256) (hn : 0 ≤ n ∧ n < 1000) : Gives Tryd.prog 61 [.int .u8 kd, .int .u8 a, .int .u8 b, .int .i64 n] w (clV (madeC kd a b n)) := by
  refine gives_of (V61.sound ?_)
  unfold V61.vc
  intro q8 _
  have b0 : ∀ t, V61.b0 w.heap.size (IsV w (clV (baseM kd a b t))) kd a b t q8 0 0 0 w := by
    intro t
    unfold V61.b0 baseM
    rw [Int.tmod_eq_emod_of_nonneg hk.1, Int.tmod_eq_emod_of_nonneg hb.1, wrap_id (n := a) (by omega) (by omega), wrap_id (n := b) (by omega) (by omega), Int.tmod_eq_emod_of_nonneg ha.1, Int.tmod_eq_emod_of_nonneg ha.1, Int.tdiv_eq_ediv_of_nonneg ha.1, wrap_id (n := a / 254) (by omega) (by omega), wrap_id (n := a * 32) (by omega) (by omega), wrap_id (n := 1 + b) (by omega) (by omega)]
    simp only [decide_eq_true_eq, beq_iff_eq]
    refine ⟨by decide, ?_⟩
    by_cases h1 : kd % 32 < 6
    · simp only [if_pos h1]; exact ⟨by decide, by omega, by decide, by decide, ret_is (Below.refl _ _) rfl⟩
    simp only [if_neg h1]
    by_cases h2 : kd % 32 < 11
    · simp only [if_pos h2]
      refine ⟨by decide, ?_⟩
      by_cases h3 : b % 8 = 0
      · simp only [if_pos h3]; exact ret_is (Below.refl _ _) rfl
      · simp only [if_neg h3]; exact ⟨by decide, ret_is (Below.refl _ _) rfl⟩
    simp only [if_neg h2]
    by_cases h3 : kd % 32 = 11
    · simp only [if_pos h3]; exact ret_is (Below.refl _ _) rfl
    simp only [if_neg h3]
    by_cases h4 : kd % 32 = 12
    · simp only [if_pos h4]; exact ret_is (Below.refl _ _) rfl
    simp only [if_neg h4]
    by_cases h5 : kd % 32 = 13
    · simp only [if_pos h5]; exact ret_is (Below.refl _ _) rfl
    simp only [if_neg h5]
    by_cases h6 : kd % 32 < 22
    · simp only [if_pos h6]; exact ret_is (Below.refl _ _) rfl
    simp only [if_neg h6]
    by_cases h7 : kd % 32 < 25
    · simp only [if_pos h7]; exact ret_is (Below.refl _ _) rfl
    simp only [if_neg h7]
    by_cases h8 : kd % 32 < 29
    · simp only [if_pos h8]; exact ret_is (Below.refl _ _) rfl
    · simp only [if_neg h8]; exact ret_is (Below.refl _ _) rfl
  have hw1 : IntKind.wrap .i64 (n + 1) = n + 1 := wrap_id (by omega) (by omega)
  rw [hw1, wrap_id (n := a) (by omega) (by omega), Int.tmod_eq_emod_of_nonneg ha.1]
  refine ⟨by omega, ?_⟩
  unfold madeC taskM
  by_cases h1 : a % (n + 1) = n
  · rw [if_pos (by simpa using h1)]
    by_cases h2 : a < 240
    · rw [if_pos (by simpa using h2), if_pos ⟨h1, h2⟩]; exact b0 _
    · rw [if_neg (by simpa using h2), if_neg (fun h => h2 h.2)]; exact b0 _
  · rw [if_neg (by simpa using h1), if_neg (fun h => h1 h.1)]; exact b0 _
theorem made_ok {kd a b n : Int} (ha : 0 ≤ a ∧ a < 256) (hb : 0 ≤ b ∧ b < 256) (hn : 0 ≤ n ∧ n < 1000) : mayC (madeC kd a b n) = true ∧ I64 (madeC kd a b n).a := by
  refine ⟨base_may hb, base_rng ha ?_⟩
  unfold taskM I64
  split
  · omega
  · have := Int.emod_nonneg a (show n + 1 ≠ 0 by omega)
    have := Int.emod_lt_of_pos a (show 0 < n + 1 by omega)
    omega
theorem awake23 : readC [102, 114, 101, 101, 32, 35, 49, 50] = (⟨2, 12, 1⟩, true) ∧ textC ⟨6, 0, 50⟩ = [114, 117, 110, 32, 48, 32, 53, 48] := by
  have e : textC ⟨2, 12, 1⟩ = [102, 114, 101, 101, 32, 35, 49, 50] := by
    have h : Lib.itoa 12 = [49, 50] := by kernel_rfl
    show joinS (wordC 2) [(if (1 : Int) = 0 then 64 else 35) :: Lib.itoa 12] = _
    rw [h]; rfl
  refine ⟨?_, ?_⟩
  · rw [← e]; exact read_text rfl (by unfold I64; dsimp only; omega)
  · have h : Lib.itoa 0 = [48] := by kernel_rfl
    have h2 : Lib.itoa 50 = [53, 48] := by kernel_rfl
    show joinS (wordC 6) [Lib.itoa 0, Lib.itoa 50] = _
    rw [h, h2]; rfl
theorem gives54 {w : World} (hl : Libs w) : Gives Tryd.prog 54 [] w (.bool true) := by
  obtain ⟨t1, t2⟩ := awake23
  refine gives_of (V54.sound ?_)
  unfold V54.vc
  refine call_gives (Below.refl _ _) (fun _ _ h => gives55 (s := [102, 114, 101, 101, 32, 35, 49, 50]) (hl.on h) (by decide)) fun w1 _ h1 => ⟨_, _, _, _, rfl, fun q1 _ => ?_⟩
  rw [t1]
  refine call_gives h1 (fun _ _ h => gives59 (c := ⟨6, 0, 50⟩) (hl.tabs.on h) (by unfold I64; dsimp only; omega)) fun w2 _ h2 => ⟨_, rfl, ?_⟩
  rw [beqs (m := [114, 117, 110, 32, 48, 32, 53, 48]) (x := { data := #[114, 117, 110, 32, 48, 32, 53, 48] }) rfl, decide_eq_true t2, if_pos rfl, if_pos rfl, if_pos (by decide)]
  exact call_gives h2 (fun _ _ h => gives57 ⟨2, 12, 1⟩) fun w3 _ h3 => ⟨_, rfl, ret_is h3 rfl⟩
end Go.Proofs.YtofblkmibghmbaaDoor
