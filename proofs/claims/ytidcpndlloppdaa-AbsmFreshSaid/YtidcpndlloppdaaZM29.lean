import Derived.Test.YtidcpndlloppdaaZFE
import Derived.Test.YtidcpndlloppdaaZP29
import Derived.Test.YtidcpndlloppdaaZFF
import Derived.Test.YtidcpndlloppdaaZEngD
/-
  Layer 2: what the functions on words return.
  Conditions: none.
-/
set_option linter.unusedVariables false
set_option linter.unusedSimpArgs false
namespace Go.Proofs.Ytidcpndlloppdaa
open Go.RowKit Ieee
theorem wrapu {n : Nat} (h : n < 2 * SW) : IntKind.wrap .u64 (n : Int) = n := by
  have e : ∀ m : Int, IntKind.wrap .u64 m = m % 18446744073709551616 := fun m => by simp [IntKind.wrap, IntKind.bits, IntKind.signed]
  rw [e]; unfold SW at h; omega
theorem xor_lt {a : Nat} (h : a < 2 * SW) : a ^^^ SW < 2 * SW := by rw [neg_wd h]; exact wd_lt _ (rg_lt a)
theorem cn_lt {x : Nat} (h : x < 2 * SW) : cn x < 2 * SW := by unfold cn NO; split <;> simp only [SW] at * <;> omega
theorem nan_order (x : Nat) : (FloatKind.f64.format.order x x != some Ordering.eq) = nanw x := by
  show (!(double.order x x == some Ordering.eq)) = _
  rw [eq_order]; cases nanw x <;> simp
theorem negf (x : Nat) : Op.negFloat .f64 x = x ^^^ SW := rfl
section
variable {w : World}
theorem gives36 (a : Nat) : Gives Try.prog 36 [.int .u64 (a : Int)] w (.float .f64 a) := by
  refine gives_of (V36.sound ?_)
  unfold V36.vc
  exact run_lone (Nat.le_refl _) (lone_from _) fun v w' he hv => ⟨a, hv, ret_is he.below rfl⟩
theorem gives50 (x : Nat) : Gives Try.prog 50 [.float .f64 x] w (.bool (nanw x)) := by
  refine gives_of (V50.sound ?_)
  unfold V50.vc
  exact ret_is (Below.refl _ _) (congrArg Value.bool (nan_order x))
theorem gives32 (x : Nat) : Gives Try.prog 32 [.float .f64 x] w (.int .u64 (cn x : Nat)) := by
  refine gives_of (V32.sound ?_)
  unfold V32.vc
  refine call_gives (Below.refl _ _) (fun _ _ _ => gives50 x) fun w1 _ h1 => ⟨_, rfl, ?_⟩
  unfold cn
  split
  · exact ret_is h1 rfl
  · exact run_lone h1.size (lone_bits _) fun v w' he hv => ⟨x, hv, ret_is (he.after h1) rfl⟩
def nw (n : Int) : Nat := cn (FloatKind.nearest .f64 n)
theorem gives10 (n : Int) : Gives Try.prog 10 [.int .i64 n] w (.int .u64 (nw n : Nat)) := by
  refine gives_of (V10.sound ?_)
  unfold V10.vc
  exact call_gives (Below.refl _ _) (fun _ _ _ => gives32 _) fun w1 _ h1 => ⟨_, rfl, ret_is h1 rfl⟩
theorem arith_vc {op : BinOp} (hop : op = .add ∨ op = .sub ∨ op = .mul ∨ op = .quo) {f g : Nat} (hf : ∀ (a : Nat) (w : World), Gives Try.prog f [.int .u64 (a : Int)] w (.float .f64 a)) (hg : ∀ (x : Nat) (w : World), Gives Try.prog g [.float .f64 x] w (.int .u64 (cn x : Nat))) (a b : Nat) :
    CallK Try.prog f [.int .u64 (a : Int)] w.heap.size w [] fun v w_1 => ∃ x6 : Nat, v = .float .f64 x6 ∧ CallK Try.prog f [.int .u64 (b : Int)] w.heap.size w_1 [] fun v_1 w_2 => ∃ x8 : Nat, v_1 = .float .f64 x8 ∧
      RunK Try.prog (Go.binOp op 29 (.float .f64 x6) (.float .f64 x8)) w.heap.size w_2 [] fun v_2 w_3 => ∃ x9 : Nat, v_2 = .float .f64 x9 ∧ CallK Try.prog g [.float .f64 x9] w.heap.size w_3 [] fun v_3 w_4 => ∃ x10 : Int, v_3 = .int .u64 x10 ∧
      Ret w.heap.size w_4 (IsV w (.int .u64 (far op a b : Nat)) (.int .u64 x10)) := by
  refine call_gives (Below.refl _ _) (fun _ _ _ => hf a _) fun w1 _ h1 => ⟨_, rfl, ?_⟩
  refine call_gives h1 (fun _ _ _ => hf b _) fun w2 _ h2 => ⟨_, rfl, ?_⟩
  refine run_lone h2.size (lone_arith op hop 29 a b) fun v w3 h3 ⟨r, hv, hr⟩ => ⟨r, hv, ?_⟩
  refine call_gives (h3.after h2) (fun _ _ _ => hg r _) fun w4 _ h4 => ⟨_, rfl, ret_is h4 ?_⟩
  rw [fr_cn hr]
theorem gives89 (a b : Nat) : Gives Try.prog 89 [.int .u64 (a : Int), .int .u64 (b : Int)] w (.int .u64 (far .add a b : Nat)) := gives_of (V89.sound (arith_vc (.inl rfl) (fun a _ => gives36 a) (fun x _ => gives32 x) a b))
theorem gives90 (a b : Nat) : Gives Try.prog 90 [.int .u64 (a : Int), .int .u64 (b : Int)] w (.int .u64 (far .sub a b : Nat)) := gives_of (V90.sound (arith_vc (.inr (.inl rfl)) (fun a _ => gives36 a) (fun x _ => gives32 x) a b))
theorem gives91 (a b : Nat) : Gives Try.prog 91 [.int .u64 (a : Int), .int .u64 (b : Int)] w (.int .u64 (far .mul a b : Nat)) := gives_of (V91.sound (arith_vc (.inr (.inr (.inl rfl))) (fun a _ => gives36 a) (fun x _ => gives32 x) a b))
theorem gives17 (a b : Nat) : Gives Try.prog 17 [.int .u64 (a : Int), .int .u64 (b : Int)] w (.int .u64 (far .quo a b : Nat)) := gives_of (V17.sound (arith_vc (.inr (.inr (.inr rfl))) (fun a _ => gives36 a) (fun x _ => gives32 x) a b))
def neF (a : Nat) : Nat := if nanw a = true then NO else a ^^^ SW
theorem cn_xor {a : Nat} (h : a < 2 * SW) : cn (a ^^^ SW) = neF a := by
  unfold cn neF nanw; rw [(neg_ng h).2]
theorem gives66 {a : Nat} (h : a < 2 * SW) : Gives Try.prog 66 [.int .u64 (a : Int)] w (.int .u64 (neF a : Nat)) := by
  refine gives_of (V66.sound ?_)
  unfold V66.vc
  refine call_gives (Below.refl _ _) (fun _ _ _ => gives36 a) fun w1 _ h1 => ⟨_, rfl, ?_⟩
  refine call_gives h1 (fun _ _ _ => gives32 _) fun w2 _ h2 => ⟨_, rfl, ret_is h2 ?_⟩
  rw [negf, cn_xor h]
def flF (a : Nat) : Nat := if nanw a = true then NO else cn (flr a)
theorem yields88 {a : Nat} (h : a < 2 * SW) : Yields Try.prog 88 [.float .f64 a] w fun v _ => ∃ r, v = .float .f64 r ∧ cn r = flF a := by
  refine yields_of (V88.sound ?_)
  unfold V88.vc
  refine run_lone (Nat.le_refl _) (lone_floor _ a h) fun v w' he ⟨r, hv, hr⟩ => ⟨r, hv, ret_q he.below fun _ _ => ⟨r, rfl, ?_⟩⟩
  unfold flF
  by_cases hn : nanw a = true
  · simp only [if_pos hn] at hr ⊢
    unfold cn; rw [if_pos hr.1]
  · simp only [if_neg hn] at hr ⊢
    rw [hr]
theorem gives67 {a : Nat} (h : a < 2 * SW) : Gives Try.prog 67 [.int .u64 (a : Int)] w (.int .u64 (flF a : Nat)) := by
  refine gives_of (V67.sound ?_)
  unfold V67.vc
  refine call_gives (Below.refl _ _) (fun _ _ _ => gives36 a) fun w1 _ h1 => ⟨_, rfl, ?_⟩
  refine call_yieldsX h1.size (fun _ _ => yields88 h) fun w2 v wx w3 _ ⟨r, hv, hr⟩ _ he => ⟨r, hv, ?_⟩
  refine call_gives (he.after h1) (fun _ _ _ => gives32 r) fun w4 _ h4 => ⟨_, rfl, ret_is h4 ?_⟩
  rw [hr]
end
end Go.Proofs.Ytidcpndlloppdaa

/-
  Layer 29: marks in memory.
  Conditions: none.
-/
set_option linter.unusedVariables false
set_option linter.unusedSimpArgs false
namespace Go.Proofs.Ytidcpndlloppdaa
open Go.RowKit
def MarkE : World → Addr → Mk → Prop := fun w a m => w.cell? (a.add 0) = some (.int .i64 m.k) ∧ w.cell? (a.add 1) = some (.int .u64 (m.w : Int))
theorem MarkE.kept : Kept1 MarkE := fun _ _ _ _ hw h => ⟨hw _ _ h.1, hw _ _ h.2⟩
abbrev Marks (w : World) (A : Option Addr) (l : Nat) (xs : List Mk) : Prop := RowAt MarkE 2 w A l xs
theorem Marks.cells {w : World} {A : Option Addr} {l : Nat} {xs : List Mk} (h : Marks w A l xs) {i : Nat} (hi : i < l) : ∃ m p, xs[i]? = some m ∧ A = some p ∧ w.cell? ((p.add (i * 2)).add 0) = some (.int .i64 m.k) ∧ w.cell? ((p.add (i * 2)).add 1) = some (.int .u64 (m.w : Int)) := by
  obtain ⟨x, p, hx, hp, h1, h2⟩ := RowAt.at h hi
  exact ⟨x, p, hx, hp, h1, h2⟩
def mcs : List Mk → List Value
  | [] => []
  | m :: l => .int .i64 m.k :: .int .u64 (m.w : Int) :: mcs l
theorem mcs_app : ∀ a b : List Mk, mcs (a ++ b) = mcs a ++ mcs b
  | [], b => rfl
  | m :: a, b => by simp [mcs, mcs_app a b]
theorem mcs_len : ∀ l : List Mk, (mcs l).length = l.length * 2
  | [] => rfl
  | m :: l => by simp only [mcs, List.length_cons, mcs_len l]; omega
theorem mcs_get : ∀ {l : List Mk} {i : Nat} {m : Mk}, l[i]? = some m → (mcs l)[i * 2]? = some (.int .i64 m.k) ∧ (mcs l)[i * 2 + 1]? = some (.int .u64 (m.w : Int))
  | [], i, m, h => by simp at h
  | y :: l, 0, m, h => by simp at h; subst h; exact ⟨rfl, rfl⟩
  | y :: l, i + 1, m, h => by
    obtain ⟨h1, h2⟩ := mcs_get (l := l) (i := i) (by simpa using h)
    rw [show (i + 1) * 2 = i * 2 + 2 by omega, show i * 2 + 2 + 1 = i * 2 + 1 + 2 by omega]
    exact ⟨h1, h2⟩
theorem mcs_inv : ∀ {l : List Mk} {j : Nat} {u : Value}, (mcs l)[j]? = some u → ∃ i m, l[i]? = some m ∧ (j = i * 2 ∧ u = .int .i64 m.k ∨ j = i * 2 + 1 ∧ u = .int .u64 (m.w : Int))
  | [], j, u, h => by simp [mcs] at h
  | y :: l, 0, u, h => by simp [mcs] at h; exact ⟨0, y, rfl, .inl ⟨rfl, h.symm⟩⟩
  | y :: l, 1, u, h => by simp [mcs] at h; exact ⟨0, y, rfl, .inr ⟨rfl, h.symm⟩⟩
  | y :: l, j + 2, u, h => by
    obtain ⟨i, m, h1, h2⟩ := mcs_inv (l := l) (j := j) (u := u) (by simpa [mcs] using h)
    refine ⟨i + 1, m, by simpa using h1, ?_⟩
    rcases h2 with ⟨h, k⟩ | ⟨h, k⟩
    · exact .inl ⟨by omega, k⟩
    · exact .inr ⟨by omega, k⟩
theorem mcs_one {l : List Mk} : ∀ u ∈ mcs l, u.oneCell' = true := fun u hu => by
  obtain ⟨j, hj⟩ := List.getElem?_of_mem hu
  obtain ⟨i, m, _, ⟨_, rfl⟩ | ⟨_, rfl⟩⟩ := mcs_inv hj <;> rfl
theorem Marks.src {w : World} {a : Addr} {l : Nat} {xs : List Mk} (h : Marks w (some a) l xs) : ∀ j u, (mcs xs)[j]? = some u → w.cell? (a.add j) = some u := fun j u hj => by
  obtain ⟨i, m, hm, hu⟩ := mcs_inv hj
  obtain ⟨p, hp, h1, h2⟩ := h.get i m hm
  cases hp
  rw [adr_add] at h1 h2
  rcases hu with ⟨rfl, rfl⟩ | ⟨rfl, rfl⟩
  · simpa using h1
  · exact h2
abbrev OwnMs (w : World) (B : Nat) (v : Value) (xs : List Mk) : Prop := w.ownsRow B 31 2 v xs.length (mcs xs)
theorem OwnMs.marks {w : World} {B : Nat} {v : Value} {xs : List Mk} (h : OwnMs w B v xs) (hl : xs.length ≤ 1000000) : ∃ A c, v = .slice A xs.length c ∧ Marks (newW B w) A xs.length xs := by
  rcases h.2 with ⟨rfl, h0⟩ | ⟨g, cap, cur, rfl, hb, _⟩
  · have : xs = [] := List.eq_nil_of_length_eq_zero h0
    subst this
    exact ⟨none, 0, rfl, rfl, Nat.zero_le _, fun i x h => by simp at h⟩
  · refine ⟨_, cap, rfl, rfl, by simp only [maxLen]; omega, fun i d hd => ⟨_, rfl, ?_⟩⟩
    obtain ⟨k1, k2⟩ := mcs_get hd
    have c1 := owns_cell h k1
    have c2 := owns_cell h k2
    constructor
    · simp only [own_add, bx_add, Nat.zero_add, Nat.add_zero]
      exact newW_cell.2 ⟨c1, hb⟩
    · simp only [own_add, bx_add, Nat.zero_add]
      exact newW_cell.2 ⟨c2, hb⟩
theorem OwnMs.nil (w : World) (B : Nat) : OwnMs w B (.slice none 0 0) [] := World.ownsRow_nil _ _ _ _
theorem append_marks {B b0 : Nat} {w : World} {bs : List Nat} {K : Value → World → Prop} {v : Value} {xs ys : List Mk} (ho : OwnMs w b0 v xs) {a : Addr} {c : Nat} (hy : Marks w (some a) ys.length ys) (hn : xs.length + ys.length ≤ 1000000) (hB : B ≤ w.heap.size) (hb0 : b0 ≤ w.heap.size)
    (hk : ∀ v' w', ExtS B (fun k => v.ownBlock = some k) w w' → OwnMs w' b0 v' (xs ++ ys) → (∀ g, v'.ownBlock = some g → v.ownBlock = some g ∨ w.heap.size ≤ g) → K v' w') :
    RunK Try.prog (Builtin.append_ #[27, 27] 27 ⟨[v, .slice (some a) ys.length c]⟩) B w bs K := by
  have hb : Try.t31.bytes = 16 := by kernel_rfl
  refine append_own (t := 27) (e := 31) (i := Try.t31) (z := .agg ⟨[.int .i64 0, .int .u64 0]⟩) (size := 2) (bytes := 16) (by kernel_rfl) (by kernel_rfl) (by kernel_rfl) (by kernel_rfl) hb rfl (by omega) ho (news := mcs ys) (mcs_len ys) hy.src mcs_one (by simp only [maxLen]; omega) (by omega) hB hb0 fun v' w' he ho' hn => ?_
  rw [← mcs_app] at ho'
  exact hk v' w' he (by unfold OwnMs; rw [List.length_append]; exact ho') hn
end Go.Proofs.Ytidcpndlloppdaa
