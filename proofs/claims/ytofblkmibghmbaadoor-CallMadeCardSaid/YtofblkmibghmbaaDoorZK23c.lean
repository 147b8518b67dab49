import Derived.Test.YtofblkmibghmbaaDoorZK23b
/-
  Layer 23: CallMade returns true.
  Conditions: the arguments' memory says what their values are.
-/
set_option linter.unusedVariables false
set_option linter.unusedSimpArgs false
set_option maxRecDepth 100000
namespace Go.Proofs.YtofblkmibghmbaaDoor
open Go.RowKit
theorem right_val {pg wk : Int} {p : List P17.Fnc} {ts : List Int} {xss : List (List Cl)} (h : (P17.checkM p).1 = 0) :
    rightC pg wk p ts xss = if pg < 1 ∨ 256 < pg ∨ wk < 1 ∨ 6 < wk ∨ 6 < ts.length then 1 else tasksC p ts wk xss := by
  unfold rightC
  rw [if_neg (c := (P17.checkM p).1 ≠ 0 ∧ 0 < ts.length) (fun h' => h'.1 h)]
theorem tasks_val {wk : Int} {p : List P17.Fnc} {ts : List Int} {xss : List (List Cl)} (h : ∀ f ∈ ts, taskBad p f = false) : tasksC p ts wk xss = formC wk xss := by
  unfold tasksC
  rw [if_neg]
  rw [List.any_eq_true]
  rintro ⟨f, hf, hb⟩
  rw [h f hf] at hb; cases hb
theorem form_val {wk : Int} {xss : List (List Cl)} (h : (xss.length : Int) = wk) : formC wk xss = if formBad xss = true then 6 else 0 := by
  unfold formC; rw [if_neg (fun h' => h' h)]
theorem form_good {xss : List (List Cl)} (h : ∀ xs ∈ xss, badRow xs = false) : formBad xss = false := by
  unfold formBad; rw [List.any_eq_false]; intro xs hx; rw [h xs hx]; decide
structure Now15 (w0 w : World) (g n : Nat) (pg wk : Int) (C : Option Addr) (c : Nat) (p : List P17.Fnc) (cs : List Value) (T : Option Addr) (tc : Nat) (ts : List Int) (vs : List Value) (xss : List (List Cl)) : Prop where
  below : Below w0.heap.size w0 w
  prog : P17.OwnP w w0.heap.size (.slice C p.length c) p cs
  tasks : w.ownsRow w0.heap.size 3 1 (.slice T ts.length tc) ts.length (ts.map (.int .i64))
  calls : OwnR w w0.heap.size g vs xss
  few : p.length ≤ 8
  code : ∀ x ∈ p, x.code.length ≤ 1000
  tasksFew : ts.length ≤ 7
  rows : ∀ xs ∈ xss, xs.length ≤ 1000
  len : xss.length = n
  small : n ≤ 6
section
variable {w0 w : World} {g n : Nat} {pg wk : Int} {C : Option Addr} {c : Nat} {p : List P17.Fnc} {cs : List Value} {T : Option Addr} {tc : Nat} {ts : List Int} {vs : List Value} {xss : List (List Cl)}
theorem Now15.progAt (h : Now15 w0 w g n pg wk C c p cs T tc ts vs xss) : P17.ProgAt w C p.length p := OwnP_prog h.prog h.few h.code
theorem Now15.numsAt (h : Now15 w0 w g n pg wk C c p cs T tc ts vs xss) : Nums .i64 w T ts.length ts := ints_at h.tasks (by have := h.tasksFew; omega)
theorem Now15.rowsAt (h : Now15 w0 w g n pg wk C c p cs T tc ts vs xss) : ClRows w (some ⟨g, 0, none⟩) n xss := by
  have := h.calls.rows (by have := h.len; have := h.small; omega) (fun xs hx => by have := h.rows xs hx; omega)
  rwa [h.len] at this
theorem Now15.ext {w' : World} (h : Now15 w0 w g n pg wk C c p cs T tc ts vs xss) (he : Ext w0.heap.size w w') : Now15 w0 w' g n pg wk C c p cs T tc ts vs xss :=
  ⟨he.after h.below, OwnP_ext h.prog he, he.owns h.tasks, h.calls.ext he, h.few, h.code, h.tasksFew, h.rows, h.len, h.small⟩
theorem b2_15 (hl : Libs w0) (h : Now15 w0 w g n pg wk C c p cs T tc ts vs xss) {want : Int} (hr : rightC pg wk p ts xss = want) {q : Nat} :
    V15.b2 w0.heap.size (IsV w0 (.bool true)) (some ⟨g, 0, none⟩) n n want q pg wk C p.length c T ts.length tc w := by
  unfold V15.b2
  refine call_gives h.below (fun w1 e1 _ => gives63 (pc := c) (tc := tc) (c := n) (h.ext e1).progAt (h.ext e1).numsAt (h.ext e1).rowsAt pg wk) fun w1 _ h1 => ⟨_, rfl, ?_⟩
  rw [hr, if_pos (beq_self_eq_true _)]
  exact call_gives h1 (fun _ _ h => gives54 (hl.on h)) fun w2 _ h2 => ⟨_, rfl, ret_is h2 rfl⟩
end
structure Set15 (w0 w : World) (g n : Nat) (pg wk : Int) (C : Option Addr) (c : Nat) (p : List P17.Fnc) (cs : List Value) (T : Option Addr) (tc : Nat) (ts : List Int) (vs : List Value) (xss : List (List Cl)) : Prop extends Now15 w0 w g n pg wk C c p cs T tc ts vs xss where
  pages : 1 ≤ pg ∧ pg ≤ 256
  workers : 1 ≤ wk ∧ wk ≤ 6
  num : wk = (n : Int)
  six : ts.length ≤ 6
  made : P17.MadeOk p
  good : ∀ f ∈ ts, taskBad p f = false
  fine : ∀ xs ∈ xss, badRow xs = false
section
variable {w0 w : World} {g n : Nat} {pg wk : Int} {C : Option Addr} {c : Nat} {p : List P17.Fnc} {cs : List Value} {T : Option Addr} {tc : Nat} {ts : List Int} {vs : List Value} {xss : List (List Cl)}
theorem Set15.check (h : Set15 w0 w g n pg wk C c p cs T tc ts vs xss) : (P17.checkM p).1 = 0 := by rw [h.made.check]
theorem Set15.right (h : Set15 w0 w g n pg wk C c p cs T tc ts vs xss) : rightC pg wk p ts xss = 0 := by
  have h1 := h.pages
  have h2 := h.workers
  have h3 := h.six
  rw [right_val h.check, if_neg (by omega), tasks_val h.good, form_val (by rw [h.len]; exact h.num.symm), form_good h.fine]; rfl
theorem case0 (hl : Libs w0) (h : Set15 w0 w g n pg wk C c p cs T tc ts vs xss) (r : Int) {q : Nat} : if (decide (r < 1)) = false then (if (decide (r > 256)) = true then (V15.b2 w0.heap.size (IsV w0 (.bool true)) (some ⟨g, 0, none⟩) n n 1 q r wk C p.length c T ts.length tc w) else (V15.b2 w0.heap.size (IsV w0 (.bool true)) (some ⟨g, 0, none⟩) n n 0 q r wk C p.length c T ts.length tc w))
    else (V15.b2 w0.heap.size (IsV w0 (.bool true)) (some ⟨g, 0, none⟩) n n 1 q r wk C p.length c T ts.length tc w) := by
  have hN : Now15 w0 w g n r wk C c p cs T tc ts vs xss := { h with }
  have hv := right_val (pg := r) (wk := wk) (ts := ts) (xss := xss) h.check
  have h0 := h.right
  rw [right_val h.check] at h0
  have h1 := h.pages
  have h2 := h.workers
  have h3 := h.six
  rw [if_neg (by omega)] at h0
  rw [h0] at hv
  by_cases c1 : r < 1
  · rw [if_neg (by simpa using c1)]; exact b2_15 hl hN (by rw [hv, if_pos (by omega)])
  rw [if_pos (by simpa using c1)]
  by_cases c2 : r > 256
  · rw [if_pos (by simpa using c2)]; exact b2_15 hl hN (by rw [hv, if_pos (by omega)])
  · rw [if_neg (by simpa using c2)]; exact b2_15 hl hN (by rw [hv, if_neg (by omega)])
theorem case1 (hl : Libs w0) (h : Set15 w0 w g n pg wk C c p cs T tc ts vs xss) (r : Int) {q : Nat} : if (decide (r < 1)) = false then (V15.b0 w0.heap.size (IsV w0 (.bool true)) r (some ⟨g, 0, none⟩) n n 0 (decide (r > 6)) q pg r C p.length c T ts.length tc w)
    else (V15.b0 w0.heap.size (IsV w0 (.bool true)) r (some ⟨g, 0, none⟩) n n 0 true q pg r C p.length c T ts.length tc w) := by
  have hN : Now15 w0 w g n pg r C c p cs T tc ts vs xss := { h with }
  have hv := right_val (pg := pg) (wk := r) (ts := ts) (xss := xss) h.check
  have h1 := h.pages
  have h2 := h.workers
  have h3 := h.six
  rw [tasks_val h.good] at hv
  unfold V15.b0
  by_cases c1 : r < 1
  · rw [if_neg (by simpa using c1), if_pos rfl]; exact b2_15 hl hN (by rw [hv, if_pos (by omega)])
  rw [if_pos (by simpa using c1)]
  by_cases c2 : r > 6
  · rw [if_pos (by simpa using c2)]; exact b2_15 hl hN (by rw [hv, if_pos (by omega)])
  rw [if_neg (by simpa using c2)]
  rw [if_neg (by omega)] at hv
  by_cases c3 : r = (n : Int)
  · rw [if_neg (by simpa using c3)]; exact b2_15 hl hN (by rw [hv, form_val (by rw [h.len]; exact c3.symm), form_good h.fine]; rfl)
  · rw [if_pos (by simpa using c3)]; exact b2_15 hl hN (by rw [hv]; unfold formC; rw [h.len, if_pos (fun e => c3 e.symm)])
theorem case2 (hl : Libs w0) (h : Set15 w0 w g n pg wk C c p cs T tc ts vs xss) (r : Int) {q : Nat} {bs : List Nat} : Expo w0.heap.size w bs fun S => 
      Hide bs (S.alloc (.cells ⟨[.int .i64 r]⟩ 3)) fun T1 => 
      RunK Tryd.prog (Builtin.append_ #[53, 53] 53 ⟨[.slice T ts.length tc, .slice (some ⟨S.heap.size, 0, none⟩) 1 1]⟩) w0.heap.size T1 bs fun U W => 
      ∃ (X : Option Addr) (Y Z : Nat), U = .slice X Y Z ∧
      if (decide ((Y : Int) > 6)) = false
      then (if (decide (r < 0)) = false
       then (if (decide (r ≥ (p.length : Int))) = false
        then (∃ a0 : Addr, C = some a0 ∧ (0 : Int) ≤ r ∧ r < (p.length : Int) ∧
        ∃ a1 : Int, W.cell? ((a0.add (r.toNat * 4)).add 0) = some (.int .i64 a1) ∧
        if (a1 != 0) = true
         then (V15.b2 w0.heap.size (IsV w0 (.bool true)) (some ⟨g, 0, none⟩) n n 1 q pg wk C p.length c X Y Z W)
         else (V15.b2 w0.heap.size (IsV w0 (.bool true)) (some ⟨g, 0, none⟩) n n 0 q pg wk C p.length c X Y Z W))
        else (V15.b2 w0.heap.size (IsV w0 (.bool true)) (some ⟨g, 0, none⟩) n n 1 q pg wk C p.length c X Y Z W))
       else (V15.b2 w0.heap.size (IsV w0 (.bool true)) (some ⟨g, 0, none⟩) n n 1 q pg wk C p.length c X Y Z W))
      else (V15.b2 w0.heap.size (IsV w0 (.bool true)) (some ⟨g, 0, none⟩) n n 1 q pg wk C p.length c X Y Z W) := by
  have h1 := h.pages
  have h2 := h.workers
  have h3 := h.six
  refine push_i h.below.size h.below.size h.tasks (by omega) fun v' w' he ho' hnw => ?_
  obtain ⟨X, Z, hv⟩ := owns_slice0 ho'
  subst hv
  refine ⟨X, _, Z, rfl, ?_⟩
  have hl1 : (ts ++ [r]).length = ts.length + 1 := by simp
  have hN : Now15 w0 w' g n pg wk C c p cs X Z (ts ++ [r]) vs xss := ⟨he.after (fun k hk => (h.tasks.lt k hk).1) h.below, OwnP_exts h.prog he h.tasks (by decide) (by decide), by rw [hl1]; exact ho', h.calls.exts he h.tasks (by decide) (by decide), h.few, h.code, by rw [hl1]; omega, h.rows, h.len, h.small⟩
  have hv := right_val (pg := pg) (wk := wk) (ts := ts ++ [r]) (xss := xss) h.check
  have b2 : ∀ want, rightC pg wk p (ts ++ [r]) xss = want → V15.b2 w0.heap.size (IsV w0 (.bool true)) (some ⟨g, 0, none⟩) n n want q pg wk C p.length c X (ts.length + 1) Z w' := fun want hr => by
    have := b2_15 hl hN hr (q := q)
    rwa [hl1] at this
  rw [hl1] at hv
  by_cases c1 : ts.length + 1 > 6
  · rw [if_neg (by simp; omega)]; exact b2 _ (by rw [hv, if_pos (by omega)])
  rw [if_pos (by simp; omega)]
  rw [if_neg (by omega)] at hv
  have bad : taskBad p r = true → V15.b2 w0.heap.size (IsV w0 (.bool true)) (some ⟨g, 0, none⟩) n n 1 q pg wk C p.length c X (ts.length + 1) Z w' := fun hb => b2 _ (by rw [hv]; unfold tasksC; rw [List.any_append, List.any_cons, hb, if_pos (by simp)])
  by_cases c2 : r < 0
  · rw [if_neg (by simpa using c2)]; exact bad (by unfold taskBad; rw [decide_eq_true (.inl c2)]; rfl)
  rw [if_pos (by simpa using c2)]
  by_cases c3 : r ≥ (p.length : Int)
  · rw [if_neg (by simpa using c3)]; exact bad (by unfold taskBad; rw [decide_eq_true (.inr c3)]; rfl)
  rw [if_pos (by simpa using c3)]
  obtain ⟨x, a, C', cx, hxx, ha, d0, _⟩ := P17.prog_at hN.progAt (i := r.toNat) (by omega)
  refine ⟨a, ha, by omega, by omega, _, d0, ?_⟩
  have htb : taskBad p r = (x.params != 0) := by
    unfold taskBad
    rw [decide_eq_false (by omega), hxx]; rfl
  by_cases c4 : (x.params != 0) = true
  · rw [if_pos c4]; exact bad (by rw [htb, c4])
  · rw [if_neg c4]
    have hgood : ∀ f ∈ ts ++ [r], taskBad p f = false := fun f hf => by
      rcases List.mem_append.1 hf with hf | hf
      · exact h.good f hf
      · rw [List.mem_singleton] at hf; subst hf; rw [htb]; simpa using c4
    exact b2 _ (by rw [hv, tasks_val hgood, form_val (by rw [h.len]; exact h.num.symm), form_good h.fine]; rfl)
theorem Set15.put {w w' : World} {k : Nat} {v v' : Value} {xs : List Cl} {d : Cl} (h : Now15 w0 w g n pg wk C c p cs T tc ts vs xss) (hv : vs[k]? = some v) (hx : xss[k]? = some xs) (hxs : xs.length < 1000) (he : ExtS w0.heap.size (fun k => v.ownBlock = some k) w w')
    (ho : w'.ownsRow w0.heap.size 40 3 v' (xs.length + 1) (clsC (xs ++ [d]))) (hn : ∀ k, v'.ownBlock = some k → v.ownBlock = some k ∨ w.heap.size ≤ k) :
    w'.heap[g]? = some (.cells ⟨vs⟩ 66 (0, 0)) ∧ Now15 w0 (w'.setCell ⟨g, k, none⟩ v') g n pg wk C c p cs T tc ts (vs.set k v') (xss.set k (xs ++ [d])) := by
  have hov := h.calls.each k v xs hv hx
  obtain ⟨hg, hR⟩ := h.calls.put hv hx he ho hn
  refine ⟨hg, below_at (he.after (fun k hk => (hov.lt k hk).1) h.below) h.calls.base _, OwnP_set (OwnP_exts h.prog he hov (by decide) (by decide)) hg (by decide) (by decide), owns_set_other (owns_exts h.tasks he hov (by decide)) hg (by decide), hR, h.few, h.code, h.tasksFew, fun ys hy => ?_, by rw [List.length_set]; exact h.len, h.small⟩
  rcases List.mem_or_eq_of_mem_set hy with hy | hy
  · exact h.rows ys hy
  · subst hy; rw [List.length_append]; simp only [List.length_cons, List.length_nil]; omega
theorem case3 (hl : Libs w0) (h : Set15 w0 w g n pg wk C c p cs T tc ts vs xss) (d : Cl) {q : Nat} {bs : List Nat} : ∃ a2 : Addr, some (⟨g, 0, none⟩ : Addr) = some a2 ∧ (0 : Int) ≤ 0 ∧ (0 : Int) < (n : Int) ∧
      ∃ (a3 : Option Addr) (a4 a5 : Nat), w.cell? (a2.add 0) = some (.slice a3 a4 a5) ∧
      Expo w0.heap.size w bs fun S => 
       Hide bs (S.alloc (.cells ⟨[.int .i64 d.k, .int .i64 d.a, .int .i64 d.b]⟩ 40)) fun T1 => 
       T1.cell? (a2.add 0) = some (.slice a3 a4 a5) ∧
       RunK Tryd.prog (Builtin.append_ #[66, 66] 66 ⟨[.slice a3 a4 a5, .slice (some ⟨S.heap.size, 0, none⟩) 1 1]⟩) w0.heap.size T1 bs fun U W => 
       ∃ (a6 : Option Addr) (a7 a8 : Nat), U = .slice a6 a7 a8 ∧
       ∃ a9 : Addr, some (⟨g, 0, none⟩ : Addr) = some a9 ∧ (0 : Int) ≤ 0 ∧ (0 : Int) < (n : Int) ∧
       (∃ u, W.cell? ((a9.add 0).add 0) = some u) ∧ W.frozen? ((a9.add 0).add 0) = false ∧
       let c0 := W.setCell ((a9.add 0).add 0) (.slice a6 a7 a8);
       ∃ c1 : Addr, some (⟨g, 0, none⟩ : Addr) = some c1 ∧ (0 : Int) ≤ 0 ∧ (0 : Int) < (n : Int) ∧
       ∃ (c2 : Option Addr) (c3 c4 : Nat), c0.cell? (c1.add 0) = some (.slice c2 c3 c4) ∧
       if (decide ((c3 : Int) > 40)) = false
       then (CallK Tryd.prog 57 [.agg ⟨[.int .i64 d.k, .int .i64 d.a, .int .i64 d.b]⟩] w0.heap.size c0 bs fun c5 c7 => 
        ∃ c8 : Bool, c5 = .bool c8 ∧
        if (!c8) = true
        then (V15.b2 w0.heap.size (IsV w0 (.bool true)) (some ⟨g, 0, none⟩) n n 6 q pg wk C p.length c T ts.length tc c7)
        else (V15.b2 w0.heap.size (IsV w0 (.bool true)) (some ⟨g, 0, none⟩) n n 0 q pg wk C p.length c T ts.length tc c7))
       else (V15.b2 w0.heap.size (IsV w0 (.bool true)) (some ⟨g, 0, none⟩) n n 6 q pg wk C p.length c T ts.length tc c0) := by
  have h1 := h.pages
  have h2 := h.workers
  have h3 := h.six
  have h4 := h.num
  obtain ⟨R, rc, xs, hxs, hvs, hcell, hown⟩ := h.calls.at (i := 0) (by rw [h.len]; omega)
  have hgood := good_row.1 (h.fine xs (List.mem_of_getElem? hxs))
  refine ⟨_, rfl, by omega, by omega, R, _, rc, by rw [own_add]; exact hcell, expo_alloc h.below.size fun w2 w3 hs e3 _ ho3 => ⟨by rw [own_add]; exact e3.cell hcell, ?_⟩⟩
  have hN3 := h.toNow15.ext e3
  refine append_call (c := d) (b0 := w0.heap.size) (fun j u hj => ?_) hN3.below.size hN3.below.size (e3.owns hown) (by omega) fun v' w4 he ho' hnw' => ?_
  · rw [own_add]
    exact at_cell (L := clC d) ho3 hj
  obtain ⟨R', rc', hv⟩ := owns_slice0 ho'
  subst hv
  obtain ⟨hg4, hN4⟩ := Set15.put hN3 hvs hxs (by omega) he ho' hnw'
  refine ⟨R', _, rc', rfl, _, rfl, by omega, by omega, ⟨.slice R xs.length rc, ?_⟩, ?_, ?_⟩
  · rw [own_add, bx_add, Nat.add_zero]; exact at_cell hg4 hvs
  · rw [own_add, bx_add, Nat.add_zero]; exact at_frozen hg4 0
  · rw [own_add, bx_add, Nat.add_zero]
    have hvl := (List.getElem?_eq_some_iff.1 hvs).1
    have hxl := (List.getElem?_eq_some_iff.1 hxs).1
    refine ⟨_, rfl, by omega, by omega, R', _, rc', by rw [own_add]; exact at_cell hN4.calls.head (by rw [List.getElem?_set_self hvl]), ?_⟩
    have hv := right_val (pg := pg) (wk := wk) (ts := ts) (xss := xss.set 0 (xs ++ [d])) h.check
    rw [if_neg (by omega), tasks_val h.good, form_val (by rw [List.length_set, h.len]; exact h.num.symm), form_one (k := 0) (xs := xs ++ [d]) (by rw [List.getElem?_set_self hxl]) (fun i ys hi hy => by
      rw [List.getElem?_set_ne (Ne.symm hi)] at hy
      exact h.fine ys (List.mem_of_getElem? hy)), bad_push hgood.2] at hv
    by_cases c1 : xs.length + 1 > 40
    · rw [if_neg (by simp; omega)]
      rw [decide_eq_true (show 40 < xs.length + 1 from c1)] at hv
      exact b2_15 hl hN4 hv
    · rw [if_pos (by simp; omega)]
      rw [decide_eq_false (show ¬ 40 < xs.length + 1 from c1), Bool.false_or] at hv
      refine call_gives hN4.below (fun _ _ _ => gives57 d) fun w5 e5 _ => ⟨_, rfl, ?_⟩
      by_cases hm : (!mayC d) = true
      · rw [if_pos hm]
        rw [if_pos hm] at hv
        exact b2_15 hl (hN4.ext e5) hv
      · rw [if_neg hm]
        rw [if_neg hm] at hv
        exact b2_15 hl (hN4.ext e5) hv
theorem case4 (hl : Libs w0) {w1 : World} {vs1 : List Value} {xss1 : List (List Cl)} (h : Set15 w0 w1 g n pg wk C c p cs T tc ts vs1 xss1) {how : Int} (hh : 0 ≤ how ∧ how < 256) {q m : Nat} (hm : m + 1 = n) :
    ∀ (k i : Nat) (w : World) (vs : List Value) (xss : List (List Cl)) (xs : List Cl), 50 < i + k → (i : Int) ≤ how / 6 → Now15 w0 w g n pg wk C c p cs T tc ts vs xss → xss[m]? = some xs → xs.length ≤ 40 + i → (∀ d ∈ xs, mayC d = true) → (∀ (i : Nat) (ys : List Cl), i ≠ m → xss[i]? = some ys → badRow ys = false) →
    V15.l1 w0.heap.size (IsV w0 (.bool true)) k how (some ⟨g, 0, none⟩) n n 0 (m : Int) (i : Int) q pg wk C p.length c T ts.length tc w := by
  have h1 := h.pages
  have h2 := h.workers
  have h3 := h.six
  have h4 := h.num
  intro k
  induction k with
  | zero => intros; omega
  | succ k ih =>
    intro i w vs xss xs hk hi hN hxs hlen hmay hrest
    dsimp -zeta only [V15.l1]
    refine ⟨by decide, ?_⟩
    rw [wrap_id (n := how) (by omega) (by omega), Int.tdiv_eq_ediv_of_nonneg hh.1, wrap_id (n := how / 6) (by omega) (by omega)]
    obtain ⟨R, rc, xs', hxs', hvs, hcell, hown⟩ := hN.calls.at (i := m) (by rw [hN.len]; omega)
    rw [hxs] at hxs'; cases hxs'
    have hvl := (List.getElem?_eq_some_iff.1 hvs).1
    have hxl := (List.getElem?_eq_some_iff.1 hxs).1
    by_cases hlt : (i : Int) < how / 6
    · rw [if_pos (by simpa using hlt)]
      refine ⟨_, rfl, by omega, by omega, R, _, rc, by rw [own_add, Int.toNat_natCast]; exact hcell, expo_alloc hN.below.size fun w2 w3 hs e3 _ ho3 => ?_⟩
      have hN3 := hN.ext e3
      refine append_call (c := ⟨4, 0, 0⟩) (b0 := w0.heap.size) (fun j u hj => ?_) hN3.below.size hN3.below.size (e3.owns hown) (by omega) fun v' w4 he ho' hnw' => ?_
      · rw [own_add]
        exact at_cell (L := clC ⟨4, 0, 0⟩) ho3 hj
      obtain ⟨R', rc', hv⟩ := owns_slice0 ho'
      subst hv
      obtain ⟨hg4, hN4⟩ := Set15.put hN3 hvs hxs (by omega) he ho' hnw'
      refine ⟨R', _, rc', rfl, _, rfl, by omega, by omega, ⟨.slice R xs.length rc, ?_⟩, ?_, ?_⟩
      · rw [own_add, bx_add, Nat.add_zero, Int.toNat_natCast]; exact at_cell hg4 hvs
      · rw [own_add, bx_add, Nat.add_zero, Int.toNat_natCast]; exact at_frozen hg4 m
      · rw [own_add, bx_add, Nat.add_zero, Int.toNat_natCast]
        have hwi : IntKind.wrap .i64 ((i : Int) + 1) = ((i + 1 : Nat) : Int) := by rw [wrap_id (by omega) (by omega)]; rfl
        rw [hwi]
        refine ih (i + 1) _ _ _ (xs ++ [⟨4, 0, 0⟩]) (by omega) (by omega) hN4 (by rw [List.getElem?_set_self hxl]) (by rw [List.length_append]; simp only [List.length_cons, List.length_nil]; omega) (fun d hd => ?_) fun j ys hj hy => ?_
        · rcases List.mem_append.1 hd with hd | hd
          · exact hmay d hd
          · rw [List.mem_singleton] at hd; subst hd; rfl
        · rw [List.getElem?_set_ne (Ne.symm hj)] at hy
          exact hrest j ys hj hy
    · rw [if_neg (by simpa using hlt)]
      refine ⟨_, rfl, by omega, by omega, R, _, rc, by rw [own_add, Int.toNat_natCast]; exact hcell, ?_⟩
      have hv := right_val (pg := pg) (wk := wk) (ts := ts) (xss := xss) h.check
      rw [if_neg (by omega), tasks_val h.good, form_val (by rw [hN.len]; exact h.num.symm), form_one hxs hrest] at hv
      have hany : (xs.any fun c => !mayC c) = false := by rw [List.any_eq_false]; intro d hd; simpa using hmay d hd
      unfold badRow at hv
      rw [hany, Bool.or_false] at hv
      by_cases c1 : xs.length > 40
      · rw [if_pos (by simp; omega)]
        rw [decide_eq_true (show 40 < xs.length from c1)] at hv
        exact b2_15 hl hN hv
      · rw [if_neg (by simp; omega)]
        rw [decide_eq_false (show ¬ 40 < xs.length from c1)] at hv
        exact b2_15 hl hN hv
theorem case5 (hl : Libs w0) (h : Set15 w0 w g n pg wk C c p cs T tc ts vs xss) (r : Int) {q : Nat} {bs : List Nat} : ∃ d0 : Addr, C = some d0 ∧ (0 : Int) ≤ 0 ∧ (0 : Int) < (p.length : Int) ∧
       (∃ u, w.cell? (((d0.add (0 * 4)).add 2).add 0) = some u) ∧ w.frozen? (((d0.add (0 * 4)).add 2).add 0) = false ∧
       let S := w.setCell (((d0.add (0 * 4)).add 2).add 0) (.int .i64 r);
       CallK Tryd.prog 67 [.agg ⟨[.slice C p.length c]⟩] w0.heap.size S bs fun U T1 => 
        ∃ d1 d2 d3 : Int, U = .tuple ⟨[.int .i64 d1, .int .i64 d2, .int .i64 d3]⟩ ∧
        if (d1 != 0) = true
        then (if (decide ((ts.length : Int) > 0)) = true
         then (V15.b2 w0.heap.size (IsV w0 (.bool true)) (some ⟨g, 0, none⟩) n n 1 q pg wk C p.length c T ts.length tc T1)
         else (V15.b2 w0.heap.size (IsV w0 (.bool true)) (some ⟨g, 0, none⟩) n n 0 q pg wk C p.length c T ts.length tc T1))
        else (V15.b2 w0.heap.size (IsV w0 (.bool true)) (some ⟨g, 0, none⟩) n n 0 q pg wk C p.length c T ts.length tc T1) := by
  have h1 := h.pages
  have h2 := h.workers
  have h3 := h.six
  have hpos := h.made.pos
  obtain ⟨x, p1, rfl⟩ : ∃ x p1, p = x :: p1 := by
    cases p with
    | nil => simp at hpos
    | cons x p1 => exact ⟨x, p1, rfl⟩
  obtain ⟨y, cs1, rfl⟩ : ∃ y cs1, cs = y :: cs1 := by
    cases cs with
    | nil => have := h.prog.2.1; simp at this
    | cons y cs1 => exact ⟨y, cs1, rfl⟩
  obtain ⟨gF, cp, hvF, hbF, hgF⟩ := owns_some h.prog.1 (by simp)
  cases hvF
  have hrow := h.prog.1
  obtain ⟨L, fF, hLF⟩ : ∃ L f, w.heap[gF]? = some (.cells L 65 f) := owns_row hrow rfl
  have hadr : (((⟨gF, 0, none⟩ : Addr).add (0 * 4)).add 2).add 0 = ⟨gF, 2, none⟩ := by simp only [own_add, bx_add]
  have hset : P17.fncsV ({ x with refs := r } :: p1) (y :: cs1) = (P17.fncsV (x :: p1) (y :: cs1)).set 2 (.int .i64 r) := rfl
  have hfr := owns_frozen hrow 2
  refine ⟨_, rfl, by omega, by simp, ⟨.int .i64 x.refs, ?_⟩, ?_, ?_⟩
  · rw [hadr]; exact owns_cell hrow (i := 2) rfl
  · rw [hadr]; exact hfr
  · rw [hadr]
    have other : ∀ {e : TypeId} {size m : Nat} {v : Value} {ys : List Value}, w.ownsRow w0.heap.size e size v m ys → 65 ≠ e → (w.setCell ⟨gF, 2, none⟩ (.int .i64 r)).ownsRow w0.heap.size e size v m ys := fun ho hne => owns_other ho fun k hk => at_other fun e => by
      subst e
      obtain ⟨c', f', hc⟩ := owns_row ho hk
      rw [hLF] at hc
      cases hc
      exact hne rfl
    have hP' : P17.OwnP (w.setCell ⟨gF, 2, none⟩ (.int .i64 r)) w0.heap.size (.slice (some ⟨gF, 0, none⟩) ({ x with refs := r } :: p1).length c) ({ x with refs := r } :: p1) (y :: cs1) := by
      refine ⟨?_, h.prog.2.1, fun i z u hz hu => ?_⟩
      · rw [hset]; exact owns_set hrow 2 _ (by simp; omega)
      · cases i with
        | zero =>
          have hz' : { x with refs := r } = z := by simpa using hz
          subst hz'
          exact other (h.prog.2.2 0 x u rfl hu) (by decide)
        | succ i => exact other (h.prog.2.2 (i + 1) z u hz hu) (by decide)
    have hneg : g ≠ gF := fun e => by
      have := h.calls.head
      rw [e, hLF] at this; cases this
    have hN : Now15 w0 (w.setCell ⟨gF, 2, none⟩ (.int .i64 r)) g n pg wk (some ⟨gF, 0, none⟩) c ({ x with refs := r } :: p1) (y :: cs1) T tc ts vs xss :=
      ⟨below_at h.below hgF _, hP', other h.tasks (by decide), ⟨h.calls.base, by rw [at_other hneg]; exact h.calls.head, h.calls.len, fun i v xs hv hx => other (h.calls.each i v xs hv hx) (by decide), h.calls.apart⟩, h.few, fun z hz => by
        rcases List.mem_cons.1 hz with rfl | hz
        · exact h.code x List.mem_cons_self
        · exact h.code z (List.mem_cons_of_mem _ hz), h.tasksFew, h.rows, h.len, h.small⟩
    have hbad : ∀ f ∈ ts, taskBad ({ x with refs := r } :: p1) f = false := fun f hf => by
      have h0 := h.good f hf
      rw [← h0]
      unfold taskBad
      cases hn : f.toNat <;> rfl
    have h0 : tasksC ({ x with refs := r } :: p1) ts wk xss = 0 := by
      rw [tasks_val hbad, form_val (by rw [h.len]; exact h.num.symm), form_good h.fine]; rfl
    refine call_gives hN.below (fun w2 e2 _ => P17.gives37 (p := { x with refs := r } :: p1) (c := c) (hN.ext e2).progAt) fun w3 e3 _ => ⟨_, _, _, rfl, ?_⟩
    have hv : rightC pg wk ({ x with refs := r } :: p1) ts xss = if (P17.checkM ({ x with refs := r } :: p1)).1 ≠ 0 ∧ 0 < ts.length then 1 else 0 := by
      unfold rightC
      rw [if_neg (by omega), h0]
    by_cases c1 : (P17.checkM ({ x with refs := r } :: p1)).1 = 0
    · rw [if_neg (by simpa using c1)]
      rw [if_neg (fun h => h.1 c1)] at hv
      exact b2_15 hl (hN.ext e3) hv
    · rw [if_pos (by simpa using c1)]
      by_cases c2 : 0 < ts.length
      · rw [if_pos (by simpa using c2)]
        rw [if_pos ⟨c1, c2⟩] at hv
        exact b2_15 hl (hN.ext e3) hv
      · rw [if_neg (by simpa using c2)]
        rw [if_neg (fun h => c2 h.2)] at hv
        exact b2_15 hl (hN.ext e3) hv
end
theorem gives15 {w : World} (hl : Libs w) {A A1 : Option Addr} {l c1 l1 c2 : Nat} {ns ks : List Int} (hns : BytesAt w A l c1 ns) (hks : BytesAt w A1 l1 c2 ks) {pages workers tasks how : Int} (hpg : 0 ≤ pages ∧ pages < 256) (hwk : 0 ≤ workers ∧ workers < 256) (htk : 0 ≤ tasks ∧ tasks < 256) (hhow : 0 ≤ how ∧ how < 256) (d : Cl) (r : Int) :
    Gives Tryd.prog 15 [.int .u8 pages, .int .u8 workers, .int .u8 tasks, .slice A l c1, .slice A1 l1 c2, .int .u8 how, clV d, .int .i64 r] w (.bool true) := by
  refine gives_of (V15.sound ?_)
  unfold V15.vc
  intro q1 _
  refine call_setup (Below.refl _ _) hns hpg hwk htk fun pg wk C c p cs T tc ts w1 hS e1 => ⟨_, _, _, _, _, _, _, _, rfl, fun q2 _ => ?_⟩
  have hw1 := e1.after (Below.refl _ _)
  refine call_calls hw1 hks hS.workers (by have := hS.few; omega) fun n g vs xss w2 hnw hC e2 => ⟨_, _, _, rfl, ?_⟩
  have hset : Set15 w w2 g n pg wk C c p cs T tc ts vs xss := ⟨⟨e2.after hw1, OwnP_ext hS.prog e2, e2.owns hS.tasks, hC.own, by have := hS.made.few; omega, fun x hx => by have := (hS.made.done x hx).2.1; omega, by have := hS.few; omega, fun xs hx => by have := (good_row.1 (hC.rows xs hx)).1; omega, hC.len, by have := hS.workers; omega⟩, hS.pages, hS.workers, hnw, hS.few, hS.made, hS.good, hC.rows⟩
  have ext : ∀ {w3 : World}, Ext w.heap.size w2 w3 → Set15 w w3 g n pg wk C c p cs T tc ts vs xss := fun e => ⟨hset.toNow15.ext e, hset.pages, hset.workers, hset.num, hset.six, hset.made, hset.good, hset.fine⟩
  refine call_gives hset.below (fun w3 e3 _ => gives63 (pc := c) (tc := tc) (c := n) (ext e3).progAt (ext e3).numsAt (ext e3).rowsAt pg wk) fun w3 e3 _ => ⟨_, rfl, ?_⟩
  rw [hset.right, if_neg (by decide), Int.tmod_eq_emod_of_nonneg hhow.1]
  have h3 := ext e3
  refine ⟨by decide, ?_⟩
  by_cases c0 : how % 6 = 0
  · rw [if_pos (by simpa using c0)]; exact case0 hl h3 r
  rw [if_neg (by simpa using c0)]
  by_cases c1 : how % 6 = 1
  · rw [if_pos (by simpa using c1)]; exact case1 hl h3 r
  rw [if_neg (by simpa using c1)]
  by_cases c2 : how % 6 = 2
  · rw [if_pos (by simpa using c2)]; exact case2 hl h3 r
  rw [if_neg (by simpa using c2)]
  by_cases c3 : how % 6 = 3
  · rw [if_pos (by simpa using c3)]; exact case3 hl h3 d
  rw [if_neg (by simpa using c3)]
  by_cases c4 : how % 6 = 4
  · rw [if_pos (by simpa using c4)]
    have hn1 : 1 ≤ n := by have := h3.workers; have := h3.num; omega
    obtain ⟨m, rfl⟩ : ∃ m, n = m + 1 := ⟨n - 1, by omega⟩
    have hw : IntKind.wrap .i64 (((m + 1 : Nat) : Int) - 1) = (m : Int) := by rw [wrap_id (by omega) (by have := h3.small; omega)]; omega
    rw [hw]
    obtain ⟨xs, hxs⟩ : ∃ xs, xss[m]? = some xs := ⟨_, List.getElem?_eq_getElem (by rw [h3.len]; omega)⟩
    have hg := good_row.1 (h3.fine xs (List.mem_of_getElem? hxs))
    exact ⟨51, case4 hl h3 hhow rfl 51 0 w3 vs xss xs (by omega) (by omega) h3.toNow15 hxs (by omega) hg.2 fun i ys _ hy => h3.fine ys (List.mem_of_getElem? hy)⟩
  · rw [if_neg (by simpa using c4)]; exact case5 hl h3 r
end Go.Proofs.YtofblkmibghmbaaDoor
