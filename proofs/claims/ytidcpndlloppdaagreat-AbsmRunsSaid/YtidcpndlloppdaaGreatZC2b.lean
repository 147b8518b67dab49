import Derived.Test.YtidcpndlloppdaaGreatZFE
import Derived.Test.YtidcpndlloppdaaGreatZFF
import Derived.Test.YtidcpndlloppdaaGreatZEngD
/-
 Layer 2: what the functions on words return.
 Conditions: none.
-/
set_option linter.unusedVariables false
set_option linter.unusedSimpArgs false
namespace Go.Proofs.YtidcpndlloppdaaGreat
open Go.RowKit Ieee
theorem wrapu {n : Nat} (h : n < 2 * SW) : IntKind.wrap .u64 (n : Int) = n := by
 have e : ∀ m : Int,IntKind.wrap .u64 m = m % 18446744073709551616 := fun m => by simp [IntKind.wrap,IntKind.bits,IntKind.signed]
 rw [e]; unfold SW at h; omega
theorem bvn {a : Nat} (h : a < 2 * SW) : (BitVec.ofInt 64 (a : Int)).toNat = a := by
 rw [BitVec.ofInt_natCast,BitVec.toNat_ofNat]; exact Nat.mod_eq_of_lt (by unfold SW at h; omega)
theorem b_nan {a : Nat} (h : a < 2 * SW) : decide (IntKind.wrap .u64 (((BitVec.ofInt 64 (a : Int) &&& BitVec.ofInt 64 9223372036854775807).toNat : Nat) : Int) > 9218868437227405312) = nanw a := by
 have e : (BitVec.ofInt 64 (a : Int) &&& BitVec.ofInt 64 9223372036854775807).toNat = rg a := by
   rw [BitVec.toNat_and,bvn h]
   show a &&& (2 ^ 63 - 1) = _
   rw [Nat.and_two_pow_sub_one_eq_mod]; rfl
 have := rg_lt a
 rw [e,wrapu (by omega)]
 unfold nanw IR
 exact decide_eq_decide.2 (by omega)
theorem b_not {a : Nat} (h : a < 2 * SW) : IntKind.wrap .u64 (((BitVec.ofInt 64 18446744073709551615 ^^^ BitVec.ofInt 64 (a : Int)).toNat : Nat) : Int) = ((2 * SW - 1 - a : Nat) : Int) := by
 have e : (BitVec.ofInt 64 18446744073709551615 ^^^ BitVec.ofInt 64 (a : Int)).toNat = 2 * SW - 1 - a := by
   have : BitVec.ofInt 64 18446744073709551615 = BitVec.allOnes 64 := by decide
   rw [this,BitVec.allOnes_xor,BitVec.toNat_not,bvn h]; rfl
 rw [e]; exact wrapu (by omega)
theorem b_or {a : Nat} (h : a < 2 * SW) (hn : ngw a = false) : IntKind.wrap .u64 (((BitVec.ofInt 64 (a : Int) ||| BitVec.ofInt 64 9223372036854775808).toNat : Nat) : Int) = ((SW + a : Nat) : Int) := by
 have h2 := wd_self h
 rw [wd_eq,hn] at h2
 simp only [Bool.false_eq_true,if_false] at h2
 have h3 := rg_lt a
 rw [h2,sw_pow] at h3
 have e : (BitVec.ofInt 64 (a : Int) ||| BitVec.ofInt 64 9223372036854775808).toNat = SW + a := by
   rw [BitVec.toNat_or,bvn h]
   show a ||| 2 ^ 63 = _
   rw [Nat.or_comm, ← two63_or h3,sw_pow]
 rw [e]; exact wrapu (by rw [sw_pow]; omega)
theorem b_xor {a : Nat} (h : a < 2 * SW) : IntKind.wrap .u64 (((BitVec.ofInt 64 (a : Int) ^^^ BitVec.ofInt 64 9223372036854775808).toNat : Nat) : Int) = ((a ^^^ SW : Nat) : Int) := by
 have e : (BitVec.ofInt 64 (a : Int) ^^^ BitVec.ofInt 64 9223372036854775808).toNat = a ^^^ SW := by
   rw [BitVec.toNat_xor,bvn h]; rfl
 rw [e]
 exact wrapu (by rw [neg_wd h]; exact wd_lt _ (rg_lt a))
theorem xor_lt {a : Nat} (h : a < 2 * SW) : a ^^^ SW < 2 * SW := by rw [neg_wd h]; exact wd_lt _ (rg_lt a)
theorem rk_bits {a : Nat} (h : a < 2 * SW) : rk a = (if ngw a = true then 2 * SW - 1 - a else SW + a) ∧ rk a < 2 * SW := by
 have h2 := wd_self h
 rw [wd_eq] at h2
 have h3 := rg_lt a
 unfold rk
 cases hn : ngw a <;> rw [hn] at h2 <;> simp only [if_true,Bool.false_eq_true,if_false] at h2 ⊢ <;> omega
theorem cn_lt {x : Nat} (h : x < 2 * SW) : cn x < 2 * SW := by unfold cn NO; split <;> simp only [SW] at * <;> omega
theorem nan_order (x : Nat) : (FloatKind.f64.format.order x x != some Ordering.eq) = nanw x := by
 show (!(double.order x x == some Ordering.eq)) = _
 rw [eq_order]; cases nanw x <;> simp
theorem negf (x : Nat) : Op.negFloat .f64 x = x ^^^ SW := rfl
section
variable {w : World}
theorem gives146 (a : Nat) : Gives Tryz.prog 146 [.int .u64 (a : Int)] w (.float .f64 a) := by
 refine gives_of (V146.sound ?_)
 unfold V146.vc
 exact run_lone (Nat.le_refl _) (lone_from _) fun v w' he hv => ⟨a,hv,ret_is he.below rfl⟩
theorem gives164 (a : Nat) : Gives Tryz.prog 164 [.int .u64 (a : Int)] w (.float .f64 a) := by
 refine gives_of (V164.sound ?_)
 unfold V164.vc
 exact run_lone (Nat.le_refl _) (lone_from _) fun v w' he hv => ⟨a,hv,ret_is he.below rfl⟩
theorem gives125 (x : Nat) : Gives Tryz.prog 125 [.float .f64 x] w (.bool (nanw x)) := by
 refine gives_of (V125.sound ?_)
 unfold V125.vc
 exact ret_is (Below.refl _ _) (congrArg Value.bool (nan_order x))
theorem gives80 (x : Nat) : Gives Tryz.prog 80 [.float .f64 x] w (.int .u64 (cn x : Nat)) := by
 refine gives_of (V80.sound ?_)
 unfold V80.vc
 refine call_gives (Below.refl _ _) (fun _ _ _ => gives125 x) fun w1 _ h1 => ⟨_,rfl, ?_⟩
 unfold cn
 split
 · exact ret_is h1 rfl
 · exact run_lone h1.size (lone_bits _) fun v w' he hv => ⟨x,hv,ret_is (he.after h1) rfl⟩
theorem gives162 (x : Nat) : Gives Tryz.prog 162 [.float .f64 x] w (.int .u64 (cn x : Nat)) := by
 refine gives_of (V162.sound ?_)
 unfold V162.vc
 rw [nan_order]
 unfold cn
 split
 · exact ret_is (Below.refl _ _) rfl
 · exact run_lone (Nat.le_refl _) (lone_bits _) fun v w' he hv => ⟨x,hv,ret_is he.below rfl⟩
def nw (n : Int) : Nat := cn (FloatKind.nearest .f64 n)
theorem gives42 (n : Int) : Gives Tryz.prog 42 [.int .i64 n] w (.int .u64 (nw n : Nat)) := by
 refine gives_of (V42.sound ?_)
 unfold V42.vc
 exact call_gives (Below.refl _ _) (fun _ _ _ => gives80 _) fun w1 _ h1 => ⟨_,rfl,ret_is h1 rfl⟩
theorem gives131 (n : Int) : Gives Tryz.prog 131 [.int .i64 n] w (.int .u64 (nw n : Nat)) := by
 refine gives_of (V131.sound ?_)
 unfold V131.vc
 exact call_gives (Below.refl _ _) (fun _ _ _ => gives162 _) fun w1 _ h1 => ⟨_,rfl,ret_is h1 rfl⟩
theorem arith_vc {op : BinOp} (hop : op = .add ∨ op = .sub ∨ op = .mul ∨ op = .quo) {f g : Nat} (hf : ∀ (a : Nat) (w : World),Gives Tryz.prog f [.int .u64 (a : Int)] w (.float .f64 a)) (hg : ∀ (x : Nat) (w : World),Gives Tryz.prog g [.float .f64 x] w (.int .u64 (cn x : Nat))) (a b : Nat) :
   CallK Tryz.prog f [.int .u64 (a : Int)] w.heap.size w [] fun v w_1 => ∃ x6 : Nat,v = .float .f64 x6 ∧ CallK Tryz.prog f [.int .u64 (b : Int)] w.heap.size w_1 [] fun v_1 w_2 => ∃ x8 : Nat,v_1 = .float .f64 x8 ∧
     RunK Tryz.prog (Go.binOp op 29 (.float .f64 x6) (.float .f64 x8)) w.heap.size w_2 [] fun v_2 w_3 => ∃ x9 : Nat,v_2 = .float .f64 x9 ∧ CallK Tryz.prog g [.float .f64 x9] w.heap.size w_3 [] fun v_3 w_4 => ∃ x10 : Int,v_3 = .int .u64 x10 ∧
     Ret w.heap.size w_4 (IsV w (.int .u64 (far op a b : Nat)) (.int .u64 x10)) := by
 refine call_gives (Below.refl _ _) (fun _ _ _ => hf a _) fun w1 _ h1 => ⟨_,rfl, ?_⟩
 refine call_gives h1 (fun _ _ _ => hf b _) fun w2 _ h2 => ⟨_,rfl, ?_⟩
 refine run_lone h2.size (lone_arith op hop 29 a b) fun v w3 h3 ⟨r,hv,hr⟩ => ⟨r,hv, ?_⟩
 refine call_gives (h3.after h2) (fun _ _ _ => hg r _) fun w4 _ h4 => ⟨_,rfl,ret_is h4 ?_⟩
 rw [fr_cn hr]
theorem gives148 (a b : Nat) : Gives Tryz.prog 148 [.int .u64 (a : Int),.int .u64 (b : Int)] w (.int .u64 (far .add a b : Nat)) := gives_of (V148.sound (arith_vc (.inl rfl) (fun a _ => gives146 a) (fun x _ => gives80 x) a b))
theorem gives149 (a b : Nat) : Gives Tryz.prog 149 [.int .u64 (a : Int),.int .u64 (b : Int)] w (.int .u64 (far .sub a b : Nat)) := gives_of (V149.sound (arith_vc (.inr (.inl rfl)) (fun a _ => gives146 a) (fun x _ => gives80 x) a b))
theorem gives150 (a b : Nat) : Gives Tryz.prog 150 [.int .u64 (a : Int),.int .u64 (b : Int)] w (.int .u64 (far .mul a b : Nat)) := gives_of (V150.sound (arith_vc (.inr (.inr (.inl rfl))) (fun a _ => gives146 a) (fun x _ => gives80 x) a b))
theorem gives151 (a b : Nat) : Gives Tryz.prog 151 [.int .u64 (a : Int),.int .u64 (b : Int)] w (.int .u64 (far .quo a b : Nat)) := gives_of (V151.sound (arith_vc (.inr (.inr (.inr rfl))) (fun a _ => gives146 a) (fun x _ => gives80 x) a b))
theorem gives165 (a b : Nat) : Gives Tryz.prog 165 [.int .u64 (a : Int),.int .u64 (b : Int)] w (.int .u64 (far .add a b : Nat)) := gives_of (V165.sound (arith_vc (.inl rfl) (fun a _ => gives164 a) (fun x _ => gives162 x) a b))
theorem gives166 (a b : Nat) : Gives Tryz.prog 166 [.int .u64 (a : Int),.int .u64 (b : Int)] w (.int .u64 (far .sub a b : Nat)) := gives_of (V166.sound (arith_vc (.inr (.inl rfl)) (fun a _ => gives164 a) (fun x _ => gives162 x) a b))
theorem gives167 (a b : Nat) : Gives Tryz.prog 167 [.int .u64 (a : Int),.int .u64 (b : Int)] w (.int .u64 (far .mul a b : Nat)) := gives_of (V167.sound (arith_vc (.inr (.inr (.inl rfl))) (fun a _ => gives164 a) (fun x _ => gives162 x) a b))
theorem gives168 (a b : Nat) : Gives Tryz.prog 168 [.int .u64 (a : Int),.int .u64 (b : Int)] w (.int .u64 (far .quo a b : Nat)) := gives_of (V168.sound (arith_vc (.inr (.inr (.inr rfl))) (fun a _ => gives164 a) (fun x _ => gives162 x) a b))
def neF (a : Nat) : Nat := if nanw a = true then NO else a ^^^ SW
theorem cn_xor {a : Nat} (h : a < 2 * SW) : cn (a ^^^ SW) = neF a := by
 unfold cn neF nanw; rw [(neg_ng h).2]
theorem gives103 {a : Nat} (h : a < 2 * SW) : Gives Tryz.prog 103 [.int .u64 (a : Int)] w (.int .u64 (neF a : Nat)) := by
 refine gives_of (V103.sound ?_)
 unfold V103.vc
 refine call_gives (Below.refl _ _) (fun _ _ _ => gives146 a) fun w1 _ h1 => ⟨_,rfl, ?_⟩
 refine call_gives h1 (fun _ _ _ => gives80 _) fun w2 _ h2 => ⟨_,rfl,ret_is h2 ?_⟩
 rw [negf,cn_xor h]
theorem gives163 {a : Nat} (h : a < 2 * SW) : Gives Tryz.prog 163 [.int .u64 (a : Int)] w (.bool (nanw a)) := by
 refine gives_of (V163.sound ?_)
 unfold V163.vc
 exact ret_is (Below.refl _ _) (congrArg Value.bool (b_nan h))
theorem gives133 {a : Nat} (h : a < 2 * SW) : Gives Tryz.prog 133 [.int .u64 (a : Int)] w (.int .u64 (neF a : Nat)) := by
 refine gives_of (V133.sound ?_)
 unfold V133.vc
 refine call_gives (Below.refl _ _) (fun _ _ _ => gives163 h) fun w1 _ h1 => ⟨_,rfl, ?_⟩
 unfold neF
 split
 · exact ret_is h1 rfl
 · exact ret_is h1 (by rw [b_xor h])
def flF (a : Nat) : Nat := if nanw a = true then NO else cn (flr a)
theorem yields147 {a : Nat} (h : a < 2 * SW) : Yields Tryz.prog 147 [.float .f64 a] w fun v _ => ∃ r,v = .float .f64 r ∧ cn r = flF a := by
 refine yields_of (V147.sound ?_)
 unfold V147.vc
 refine run_lone (Nat.le_refl _) (lone_floor _ a h) fun v w' he ⟨r,hv,hr⟩ => ⟨r,hv,ret_q he.below fun _ _ => ⟨r,rfl, ?_⟩⟩
 unfold flF
 by_cases hn : nanw a = true
 · simp only [if_pos hn] at hr ⊢
   unfold cn; rw [if_pos hr.1]
 · simp only [if_neg hn] at hr ⊢
   rw [hr]
theorem gives104 {a : Nat} (h : a < 2 * SW) : Gives Tryz.prog 104 [.int .u64 (a : Int)] w (.int .u64 (flF a : Nat)) := by
 refine gives_of (V104.sound ?_)
 unfold V104.vc
 refine call_gives (Below.refl _ _) (fun _ _ _ => gives146 a) fun w1 _ h1 => ⟨_,rfl, ?_⟩
 refine call_yieldsX h1.size (fun _ _ => yields147 h) fun w2 v wx w3 _ ⟨r,hv,hr⟩ _ he => ⟨r,hv, ?_⟩
 refine call_gives (he.after h1) (fun _ _ _ => gives80 r) fun w4 _ h4 => ⟨_,rfl,ret_is h4 ?_⟩
 rw [hr]
end
end Go.Proofs.YtidcpndlloppdaaGreat

/-
 Layer 29: marks in memory.
 Conditions: none.
-/
set_option linter.unusedVariables false
set_option linter.unusedSimpArgs false
namespace Go.Proofs.YtidcpndlloppdaaGreat
open Go.RowKit
def MarkE : World → Addr → Mk → Prop := fun w a m => w.cell? (a.add 0) = some (.int .i64 m.k) ∧ w.cell? (a.add 1) = some (.int .u64 (m.w : Int))
theorem MarkE.kept : Kept1 MarkE := fun _ _ _ _ hw h => ⟨hw _ _ h.1,hw _ _ h.2⟩
abbrev Marks (w : World) (A : Option Addr) (l : Nat) (xs : List Mk) : Prop := RowAt MarkE 2 w A l xs
theorem Marks.cells {w : World} {A : Option Addr} {l : Nat} {xs : List Mk} (h : Marks w A l xs) {i : Nat} (hi : i < l) : ∃ m p,xs[i]? = some m ∧ A = some p ∧ w.cell? ((p.add (i * 2)).add 0) = some (.int .i64 m.k) ∧ w.cell? ((p.add (i * 2)).add 1) = some (.int .u64 (m.w : Int)) := by
 obtain ⟨x,p,hx,hp,h1,h2⟩ := RowAt.at h hi
 exact ⟨x,p,hx,hp,h1,h2⟩
def mcs : List Mk → List Value
 | [] => []
 | m :: l => .int .i64 m.k :: .int .u64 (m.w : Int) :: mcs l
theorem mcs_app : ∀ a b : List Mk,mcs (a ++ b) = mcs a ++ mcs b
 | [],b => rfl
 | m :: a,b => by simp [mcs,mcs_app a b]
theorem mcs_len : ∀ l : List Mk,(mcs l).length = l.length * 2
 | [] => rfl
 | m :: l => by simp only [mcs,List.length_cons,mcs_len l]; omega
theorem mcs_get : ∀ {l : List Mk} {i : Nat} {m : Mk},l[i]? = some m → (mcs l)[i * 2]? = some (.int .i64 m.k) ∧ (mcs l)[i * 2 + 1]? = some (.int .u64 (m.w : Int))
 | [],i,m,h => by simp at h
 | y :: l,0,m,h => by simp at h; subst h; exact ⟨rfl,rfl⟩
 | y :: l,i + 1,m,h => by
   obtain ⟨h1,h2⟩ := mcs_get (l := l) (i := i) (by simpa using h)
   rw [show (i + 1) * 2 = i * 2 + 2 by omega,show i * 2 + 2 + 1 = i * 2 + 1 + 2 by omega]
   exact ⟨h1,h2⟩
theorem mcs_inv : ∀ {l : List Mk} {j : Nat} {u : Value},(mcs l)[j]? = some u → ∃ i m,l[i]? = some m ∧ (j = i * 2 ∧ u = .int .i64 m.k ∨ j = i * 2 + 1 ∧ u = .int .u64 (m.w : Int))
 | [],j,u,h => by simp [mcs] at h
 | y :: l,0,u,h => by simp [mcs] at h; exact ⟨0,y,rfl,.inl ⟨rfl,h.symm⟩⟩
 | y :: l,1,u,h => by simp [mcs] at h; exact ⟨0,y,rfl,.inr ⟨rfl,h.symm⟩⟩
 | y :: l,j + 2,u,h => by
   obtain ⟨i,m,h1,h2⟩ := mcs_inv (l := l) (j := j) (u := u) (by simpa [mcs] using h)
   refine ⟨i + 1,m,by simpa using h1, ?_⟩
   rcases h2 with ⟨h,k⟩ | ⟨h,k⟩
   · exact .inl ⟨by omega,k⟩
   · exact .inr ⟨by omega,k⟩
theorem mcs_one {l : List Mk} : ∀ u ∈ mcs l,u.oneCell' = true := fun u hu => by
 obtain ⟨j,hj⟩ := List.getElem?_of_mem hu
 obtain ⟨i,m,_,⟨_,rfl⟩ | ⟨_,rfl⟩⟩ := mcs_inv hj <;> rfl
theorem Marks.src {w : World} {a : Addr} {l : Nat} {xs : List Mk} (h : Marks w (some a) l xs) : ∀ j u,(mcs xs)[j]? = some u → w.cell? (a.add j) = some u := fun j u hj => by
 obtain ⟨i,m,hm,hu⟩ := mcs_inv hj
 obtain ⟨p,hp,h1,h2⟩ := h.get i m hm
 cases hp
 rw [adr_add] at h1 h2
 rcases hu with ⟨rfl,rfl⟩ | ⟨rfl,rfl⟩
 · simpa using h1
 · exact h2
abbrev OwnMs (w : World) (B : Nat) (v : Value) (xs : List Mk) : Prop := w.ownsRow B 57 2 v xs.length (mcs xs)
theorem OwnMs.marks {w : World} {B : Nat} {v : Value} {xs : List Mk} (h : OwnMs w B v xs) (hl : xs.length ≤ 1000000) : ∃ A c,v = .slice A xs.length c ∧ Marks (newW B w) A xs.length xs := by
 rcases h.2 with ⟨rfl,h0⟩ | ⟨g,cap,cur,rfl,hb,_⟩
 · have : xs = [] := List.eq_nil_of_length_eq_zero h0
   subst this
   exact ⟨none,0,rfl,rfl,Nat.zero_le _,fun i x h => by simp at h⟩
 · refine ⟨_,cap,rfl,rfl,by simp only [maxLen]; omega,fun i d hd => ⟨_,rfl, ?_⟩⟩
   obtain ⟨k1,k2⟩ := mcs_get hd
   have c1 := owns_cell h k1
   have c2 := owns_cell h k2
   constructor
   · simp only [own_add,bx_add,Nat.zero_add,Nat.add_zero]
     exact newW_cell.2 ⟨c1,hb⟩
   · simp only [own_add,bx_add,Nat.zero_add]
     exact newW_cell.2 ⟨c2,hb⟩
theorem OwnMs.nil (w : World) (B : Nat) : OwnMs w B (.slice none 0 0) [] := World.ownsRow_nil _ _ _ _
theorem append_marks {B b0 : Nat} {w : World} {bs : List Nat} {K : Value → World → Prop} {v : Value} {xs ys : List Mk} (ho : OwnMs w b0 v xs) {a : Addr} {c : Nat} (hy : Marks w (some a) ys.length ys) (hn : xs.length + ys.length ≤ 1000000) (hB : B ≤ w.heap.size) (hb0 : b0 ≤ w.heap.size)
   (hk : ∀ v' w',ExtS B (fun k => v.ownBlock = some k) w w' → OwnMs w' b0 v' (xs ++ ys) → (∀ g,v'.ownBlock = some g → v.ownBlock = some g ∨ w.heap.size ≤ g) → K v' w') :
   RunK Tryz.prog (Builtin.append_ #[45,45] 45 ⟨[v,.slice (some a) ys.length c]⟩) B w bs K := by
 have hb : Tryz.t57.bytes = 16 := by kernel_rfl
 refine append_own (t := 45) (e := 57) (i := Tryz.t57) (z := .agg ⟨[.int .i64 0,.int .u64 0]⟩) (size := 2) (bytes := 16) (by kernel_rfl) (by kernel_rfl) (by kernel_rfl) (by kernel_rfl) hb rfl (by omega) ho (news := mcs ys) (mcs_len ys) hy.src mcs_one (by simp only [maxLen]; omega) (by omega) hB hb0 fun v' w' he ho' hn => ?_
 rw [← mcs_app] at ho'
 exact hk v' w' he (by unfold OwnMs; rw [List.length_append]; exact ho') hn
end Go.Proofs.YtidcpndlloppdaaGreat

/-
 Layer 2: the lesser and the greater one,ranks,comparisons: what calls return.
 Conditions: none.
-/
set_option linter.unusedVariables false
set_option linter.unusedSimpArgs false
namespace Go.Proofs.YtidcpndlloppdaaGreat
open Go.RowKit Ieee
def mnF (a b : Nat) : Nat := if nanw a = true ∨ nanw b = true then NO else if rk b < rk a then b else a
def mxF (a b : Nat) : Nat := if nanw a = true ∨ nanw b = true then NO else if rk a < rk b then b else a
theorem cn_id {a : Nat} (h : ¬ nanw a = true) : cn a = a := by unfold cn; rw [if_neg h]
section
variable {w : World}
theorem gives181 (a b : Nat) : Gives Tryz.prog 181 [.float .f64 a,.float .f64 b] w (.float .f64 (pickN true .lt a b)) := by
 refine gives_of (V181.sound ?_)
 unfold V181.vc
 exact run_lone (Nat.le_refl _) (lone_min _ _) fun v w' he hv => ⟨_,hv,ret_is he.below rfl⟩
theorem gives182 (a b : Nat) : Gives Tryz.prog 182 [.float .f64 a,.float .f64 b] w (.float .f64 (pickN false .gt a b)) := by
 refine gives_of (V182.sound ?_)
 unfold V182.vc
 exact run_lone (Nat.le_refl _) (lone_max _ _) fun v w' he hv => ⟨_,hv,ret_is he.below rfl⟩
theorem ext_vc {g : Nat} {f : Nat → Nat → Nat} {F : Nat → Nat → Nat} (hg : ∀ (a b : Nat) (w : World),Gives Tryz.prog g [.float .f64 a,.float .f64 b] w (.float .f64 (f a b))) {a b : Nat}
   (hF : (nanw a = true ∨ nanw b = true → F a b = NO) ∧ (¬ nanw a = true → ¬ nanw b = true → cn (f a b) = F a b)) :
   CallK Tryz.prog 146 [.int .u64 (a : Int)] w.heap.size w [] fun v w_1 => ∃ x10 : Nat,v = .float .f64 x10 ∧ CallK Tryz.prog 146 [.int .u64 (b : Int)] w.heap.size w_1 [] fun v_1 w_2 => ∃ x12 : Nat,v_1 = .float .f64 x12 ∧
     CallK Tryz.prog 125 [.float .f64 x10] w.heap.size w_2 [] fun v_2 w_3 => ∃ b14 : Bool,v_2 = .bool b14 ∧
     if b14 = false
     then (CallK Tryz.prog 125 [.float .f64 x12] w.heap.size w_3 [] fun v_3 w_4 => ∃ b17 : Bool,v_3 = .bool b17 ∧
       if b17 = true
       then (Ret w.heap.size w_4 (IsV w (.int .u64 (F a b : Nat)) (.int .u64 9221120237041090560)))
       else (CallK Tryz.prog g [.float .f64 x10,.float .f64 x12] w.heap.size w_4 [] fun v_4 w_5 => ∃ x22 : Nat,v_4 = .float .f64 x22 ∧
         CallK Tryz.prog 80 [.float .f64 x22] w.heap.size w_5 [] fun v_5 w_6 => ∃ x23 : Int,v_5 = .int .u64 x23 ∧ Ret w.heap.size w_6 (IsV w (.int .u64 (F a b : Nat)) (.int .u64 x23))))
     else (Ret w.heap.size w_3 (IsV w (.int .u64 (F a b : Nat)) (.int .u64 9221120237041090560))) := by
 refine call_gives (Below.refl _ _) (fun _ _ _ => gives146 a) fun w1 _ h1 => ⟨_,rfl, ?_⟩
 refine call_gives h1 (fun _ _ _ => gives146 b) fun w2 _ h2 => ⟨_,rfl, ?_⟩
 refine call_gives h2 (fun _ _ _ => gives125 a) fun w3 _ h3 => ⟨_,rfl, ?_⟩
 split
 · rename_i na
   refine call_gives h3 (fun _ _ _ => gives125 b) fun w4 _ h4 => ⟨_,rfl, ?_⟩
   split
   · rename_i nb
     exact ret_is h4 (by rw [hF.1 (.inr nb)]; rfl)
   · rename_i nb
     refine call_gives h4 (fun _ _ _ => hg a b _) fun w5 _ h5 => ⟨_,rfl, ?_⟩
     refine call_gives h5 (fun _ _ _ => gives80 _) fun w6 _ h6 => ⟨_,rfl,ret_is h6 ?_⟩
     rw [hF.2 (by rw [na]; decide) nb]
 · rename_i na
   exact ret_is h3 (by rw [hF.1 (.inl (by simpa using na))]; rfl)
theorem gives152 {a b : Nat} (ha : a < 2 * SW) (hb : b < 2 * SW) : Gives Tryz.prog 152 [.int .u64 (a : Int),.int .u64 (b : Int)] w (.int .u64 (mnF a b : Nat)) := by
 refine gives_of (V152.sound ?_)
 unfold V152.vc
 refine call_gives (v := .int .u64 (mnF a b : Nat)) (Below.refl _ _) (fun w1 _ _ => gives_of (V180a.sound (ext_vc (g := 181) (f := pickN true .lt) (F := mnF) (fun a b _ => gives181 a b) ⟨fun h => by unfold mnF; rw [if_pos h],fun na nb => ?_⟩))) fun w1 _ h1 => ⟨_,rfl,ret_is h1 rfl⟩
 rw [min_law ha hb (by simpa using na) (by simpa using nb)]
 have e : mnF a b = if rk b < rk a then b else a := by unfold mnF; rw [if_neg (fun h => by rcases h with h | h; exact na h; exact nb h)]
 rw [e]
 split
 · exact cn_id nb
 · exact cn_id na
theorem gives153 {a b : Nat} (ha : a < 2 * SW) (hb : b < 2 * SW) : Gives Tryz.prog 153 [.int .u64 (a : Int),.int .u64 (b : Int)] w (.int .u64 (mxF a b : Nat)) := by
 refine gives_of (V153.sound ?_)
 unfold V153.vc
 refine call_gives (v := .int .u64 (mxF a b : Nat)) (Below.refl _ _) (fun w1 _ _ => gives_of (V180b.sound (ext_vc (g := 182) (f := pickN false .gt) (F := mxF) (fun a b _ => gives182 a b) ⟨fun h => by unfold mxF; rw [if_pos h],fun na nb => ?_⟩))) fun w1 _ h1 => ⟨_,rfl,ret_is h1 rfl⟩
 rw [max_law ha hb (by simpa using na) (by simpa using nb)]
 have e : mxF a b = if rk a < rk b then b else a := by unfold mxF; rw [if_neg (fun h => by rcases h with h | h; exact na h; exact nb h)]
 rw [e]
 split
 · exact cn_id nb
 · exact cn_id na
theorem rk_int {a : Nat} (h : a < 2 * SW) : (ngw a = true → ((2 * SW - 1 - a : Nat) : Int) = (rk a : Nat)) ∧ (ngw a = false → ((SW + a : Nat) : Int) = (rk a : Nat)) := by
 have := (rk_bits h).1
 constructor
 · intro hn; rw [hn] at this; simp only [if_true] at this; rw [this]
 · intro hn; rw [hn] at this; simp only [Bool.false_eq_true,if_false] at this; rw [this]
theorem b_shr (a : Nat) (h : a < 2 * SW) : (Int.fdiv (a : Int) (2 ^ min 63 64) == 1) = ngw a := by
 have e : Int.fdiv (a : Int) (2 ^ min 63 64) = ((a / SW : Nat) : Int) := by
   have : ((2 : Int) ^ min 63 64) = ((SW : Nat) : Int) := by decide
   rw [this,Int.fdiv_eq_ediv_of_nonneg _ (by omega)]; rfl
 rw [e]
 have h2 : a / SW < 2 := (Nat.div_lt_iff_lt_mul (by decide)).2 h
 unfold ngw
 rcases (fun q (h : q < 2) => (by omega : q = 0 ∨ q = 1) : ∀ q : Nat,q < 2 → q = 0 ∨ q = 1) _ h2 with e | e <;> rw [e] <;> rfl
theorem gives183 {a : Nat} (h : a < 2 * SW) : Gives Tryz.prog 183 [.int .u64 (a : Int)] w (.int .u64 (rk a : Nat)) := by
 refine gives_of (V183.sound ?_)
 unfold V183.vc
 refine ⟨by decide, ?_⟩
 rw [b_shr a h,b_not h]
 cases hn : ngw a
 · rw [if_neg (by decide),b_or h hn]
   exact ret_is (Below.refl _ _) (by rw [(rk_int h).2 hn])
 · rw [if_pos rfl]
   exact ret_is (Below.refl _ _) (by rw [(rk_int h).1 hn])
theorem gives169 {a b : Nat} (ha : a < 2 * SW) (hb : b < 2 * SW) : Gives Tryz.prog 169 [.int .u64 (a : Int),.int .u64 (b : Int)] w (.int .u64 (mnF a b : Nat)) := by
 refine gives_of (V169.sound ?_)
 unfold V169.vc
 refine call_gives (Below.refl _ _) (fun _ _ _ => gives163 ha) fun w1 _ h1 => ⟨_,rfl, ?_⟩
 split
 · rename_i na
   refine call_gives h1 (fun _ _ _ => gives163 hb) fun w2 _ h2 => ⟨_,rfl, ?_⟩
   split
   · rename_i nb
     exact ret_is h2 (by unfold mnF; rw [if_pos (.inr nb)]; rfl)
   · rename_i nb
     refine call_gives h2 (fun _ _ _ => gives183 hb) fun w3 _ h3 => ⟨_,rfl, ?_⟩
     refine call_gives h3 (fun _ _ _ => gives183 ha) fun w4 _ h4 => ⟨_,rfl, ?_⟩
     have e : mnF a b = if rk b < rk a then b else a := by unfold mnF; rw [if_neg (fun h => by rcases h with h | h; rw [na] at h; cases h; exact nb h)]
     rw [e]
     by_cases hr : rk b < rk a
     · rw [if_pos (by simpa using hr),if_pos hr]; exact ret_is h4 rfl
     · rw [if_neg (by simpa using hr),if_neg hr]; exact ret_is h4 rfl
 · rename_i na
   exact ret_is h1 (by unfold mnF; rw [if_pos (.inl (by simpa using na))]; rfl)
theorem gives170 {a b : Nat} (ha : a < 2 * SW) (hb : b < 2 * SW) : Gives Tryz.prog 170 [.int .u64 (a : Int),.int .u64 (b : Int)] w (.int .u64 (mxF a b : Nat)) := by
 refine gives_of (V170.sound ?_)
 unfold V170.vc
 refine call_gives (Below.refl _ _) (fun _ _ _ => gives163 ha) fun w1 _ h1 => ⟨_,rfl, ?_⟩
 split
 · rename_i na
   refine call_gives h1 (fun _ _ _ => gives163 hb) fun w2 _ h2 => ⟨_,rfl, ?_⟩
   split
   · rename_i nb
     exact ret_is h2 (by unfold mxF; rw [if_pos (.inr nb)]; rfl)
   · rename_i nb
     refine call_gives h2 (fun _ _ _ => gives183 hb) fun w3 _ h3 => ⟨_,rfl, ?_⟩
     refine call_gives h3 (fun _ _ _ => gives183 ha) fun w4 _ h4 => ⟨_,rfl, ?_⟩
     have e : mxF a b = if rk a < rk b then b else a := by unfold mxF; rw [if_neg (fun h => by rcases h with h | h; rw [na] at h; cases h; exact nb h)]
     rw [e]
     by_cases hr : rk a < rk b
     · rw [if_pos (by simpa using hr),if_pos hr]; exact ret_is h4 rfl
     · rw [if_neg (by simpa using hr),if_neg hr]; exact ret_is h4 rfl
 · rename_i na
   exact ret_is h1 (by unfold mxF; rw [if_pos (.inl (by simpa using na))]; rfl)
def ltF (a b : Nat) : Bool := double.order a b == some .lt
def eqF (a b : Nat) : Bool := double.order a b == some .eq
theorem cmp_vc {f : Nat} (hf : ∀ (a : Nat) (w : World),Gives Tryz.prog f [.int .u64 (a : Int)] w (.float .f64 a)) (a b : Nat) (F : Nat → Nat → Bool) :
   CallK Tryz.prog f [.int .u64 (a : Int)] w.heap.size w [] fun v w_1 => ∃ x6 : Nat,v = .float .f64 x6 ∧ CallK Tryz.prog f [.int .u64 (b : Int)] w.heap.size w_1 [] fun v_1 w_2 => ∃ x8 : Nat,v_1 = .float .f64 x8 ∧
     Ret w.heap.size w_2 (IsV w (.bool (F a b)) (.bool (F x6 x8))) := by
 refine call_gives (Below.refl _ _) (fun _ _ _ => hf a _) fun w1 _ h1 => ⟨_,rfl, ?_⟩
 refine call_gives h1 (fun _ _ _ => hf b _) fun w2 _ h2 => ⟨_,rfl,ret_is h2 rfl⟩
theorem gives155 (a b : Nat) : Gives Tryz.prog 155 [.int .u64 (a : Int),.int .u64 (b : Int)] w (.bool (ltF a b)) := gives_of (V155.sound (cmp_vc (fun a _ => gives146 a) a b ltF))
theorem gives156 (a b : Nat) : Gives Tryz.prog 156 [.int .u64 (a : Int),.int .u64 (b : Int)] w (.bool (eqF a b)) := gives_of (V156.sound (cmp_vc (fun a _ => gives146 a) a b eqF))
theorem gives171 (a b : Nat) : Gives Tryz.prog 171 [.int .u64 (a : Int),.int .u64 (b : Int)] w (.bool (ltF a b)) := gives_of (V171.sound (cmp_vc (fun a _ => gives164 a) a b ltF))
theorem gives172 (a b : Nat) : Gives Tryz.prog 172 [.int .u64 (a : Int),.int .u64 (b : Int)] w (.bool (eqF a b)) := gives_of (V172.sound (cmp_vc (fun a _ => gives164 a) a b eqF))
def trF (a : Nat) : Bool := decide (rg a ≠ 0)
theorem eq_zero (a : Nat) : (double.order a 0 == some Ordering.eq) = decide (rg a = 0) := by
 rw [eq_order]
 have h0 : nanw 0 = false := by decide
 have h1 : sr 0 = 0 := by decide
 rw [h0,h1]
 by_cases h : nanw a = true
 · rw [h]
   have : ¬ rg a = 0 := by unfold nanw IR at h; simp at h; omega
   simp [this]
 · have h : nanw a = false := by simpa using h
   rw [h]
   simp only [Bool.not_false,Bool.true_and]
   refine decide_eq_decide.2 ?_
   unfold sr sgn
   split <;> omega
theorem gives105 (a : Nat) : Gives Tryz.prog 105 [.int .u64 (a : Int)] w (.bool (trF a)) := by
 refine gives_of (V105.sound ?_)
 unfold V105.vc
 refine call_gives (Below.refl _ _) (fun _ _ _ => gives146 a) fun w1 _ h1 => ⟨_,rfl,ret_is h1 (congrArg Value.bool ?_)⟩
 show (!(double.order a 0 == some Ordering.eq)) = _
 rw [eq_zero]; unfold trF
 by_cases h : rg a = 0 <;> simp [h]
theorem gives135 {a : Nat} (h : a < 2 * SW) : Gives Tryz.prog 135 [.int .u64 (a : Int)] w (.bool (trF a)) := by
 refine gives_of (V135.sound ?_)
 unfold V135.vc
 refine ⟨by decide,ret_is (Below.refl _ _) (congrArg Value.bool ?_)⟩
 have e : ∀ m : Int,IntKind.wrap .u64 m = m % 18446744073709551616 := fun m => by simp [IntKind.wrap,IntKind.bits,IntKind.signed]
 rw [e]
 have h1 : ((2 : Int) ^ min 1 64) = 2 := by decide
 rw [h1]
 unfold trF rg
 unfold SW at *
 by_cases hz : a % 9223372036854775808 = 0
 · have : (a : Int) * 2 % 18446744073709551616 = 0 := by omega
   rw [this]; simp [hz]
 · have : ¬ (a : Int) * 2 % 18446744073709551616 = 0 := by omega
   simp [hz,this]
theorem gives134 {a : Nat} (h : a < 2 * SW) : Gives Tryz.prog 134 [.int .u64 (a : Int)] w (.int .u64 (flF a : Nat)) := by
 refine gives_of (V134.sound ?_)
 unfold V134.vc
 refine call_gives (Below.refl _ _) (fun _ _ _ => gives163 h) fun w0 _ h0 => ⟨_,rfl, ?_⟩
 split
 · rename_i na
   exact ret_is h0 (by unfold flF; rw [if_pos na]; rfl)
 · refine call_gives h0 (fun _ _ _ => gives164 a) fun w1 _ h1 => ⟨_,rfl, ?_⟩
   refine call_yieldsX h1.size (fun _ _ => yields147 h) fun w2 v wx w3 _ ⟨r,hv,hr⟩ _ he => ⟨r,hv, ?_⟩
   refine call_gives (he.after h1) (fun _ _ _ => gives162 r) fun w4 _ h4 => ⟨_,rfl,ret_is h4 ?_⟩
   rw [hr]
end
end Go.Proofs.YtidcpndlloppdaaGreat
