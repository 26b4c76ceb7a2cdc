/-
  The document's wheel: Add.
-/
import Derived.Test.YtbhhbddmokddeaaWrC
import Derived.Deep.RegionLaw
namespace Go.Proofs.Ytbhhbddmokddeaa
open Go.RowKit Go.Maps

/-- 'append(xs, ys...)' onto an owned row of one-cell elements, whatever slice ys is. -/
theorem step_app {P : Program} {w : World} {ops : Array Oper} {o : Oper} {a : Act} {K : Act → World → Prop} {Q : Exit → Act → World → Prop} {E : Prop} (hgd : Region.wanted o (yielded ops a.tmps) = true) (s x : Operand) (t : TypeId)
    (ho : o.op = .call { callee := .builtin .append, args := #[s, x], argTypes := #[t, t] })
    (base : Nat) (e : TypeId) {z : Value} {bytes : Nat} (ht : P.underlying t = some (.slice e)) (hi : (P.info? e).map (fun i => (i.zero, i.size, i.bytes)) = some (some z, 1, bytes)) (hzs : z.cells.size = 1)
    (v : Value) (n : Nat) (us : List Value) (hs : a.eval s = v) (hown : w.ownsRow base e 1 v n us)
    (A : Option Addr) (m c : Nat) (news : List Value) (hx : a.eval x = .slice A m c) (hr : IsVals w A m news) (h1 : ∀ u ∈ news, u.oneCell' = true)
    (h63 : n + m ≤ maxLen) (hbytes : (n + m) * bytes ≤ 140737488355328) (hbase : base ≤ w.heap.size)
    (h : ∀ A' c' w', w'.ownsRow base e 1 (.slice A' (n + m) c') (n + m) (us ++ news) → w.grownBy w' v.ownBlock → K (a.put o.dst (.slice A' (n + m) c')) w') : if Region.wanted o (yielded ops a.tmps) = true then Oper.wp P o a w K Q else E := by
  rw [if_pos hgd]
  have h' : ∀ v' w', w'.ownsRow base e 1 v' (n + m) (us ++ news) → w.grownBy w' v.ownBlock → K (a.put o.dst v') w' := fun v' w' ho' hg' => by
    obtain ⟨A', c', rfl, _⟩ := vals_of_own ho'
    exact h A' c' w' ho' hg'
  obtain ⟨i, hi', hz, hsz, hby⟩ := info_parts hi
  rcases A with _ | ad
  · have hm : m = 0 := by
      rcases Nat.eq_zero_or_pos m with h0 | h0
      · exact h0
      · obtain ⟨b, o, he, _⟩ := hr.2 h0
        cases he
    subst hm
    have hn : news = [] := List.eq_nil_of_length_eq_zero hr.1
    subst hn
    have hrun := run_append_none (P := P) (w := w) base t o.type e i 1 ht hi' v n us hown c
    unfold Oper.wp execOp
    simp only [ho, resolve, invoke, builtin, Sem.run_bind, Sem.run_pure, Result.andThen_ok, List.map_toArray, List.map_cons, List.map_nil, hs, hx, hrun]
    exact (h' v w (by simpa using hown) (World.grownBy.refl w _))
  · have hcells : ∀ j u, news[j]? = some u → w.cell? (ad.add j) = some u := by
      intro j u hu
      rcases Nat.eq_zero_or_pos m with h0 | h0
      · subst h0
        have hn : news = [] := List.eq_nil_of_length_eq_zero hr.1
        subst hn
        simp at hu
      · obtain ⟨b, o, he, _, hc⟩ := hr.2 h0
        obtain rfl := Option.some.inj he
        have := hc j u hu
        rw [Addr.add_lit]
        exact this
    exact wp_append_own (P := P) w s x t ho base e i z 1 bytes ht hi' hz hsz hby hzs (by omega) v n us hs hown ad m c news hx (by simpa using hr.1) hcells h1 h63 hbytes hbase fun v' w' ho' hg' _ => (h' v' w' ho' hg')

theorem own_empty_at {w : World} {g : Nat} (hg : g = w.heap.size) (base : Nat) (e : TypeId) (hb : base ≤ w.heap.size) : (w.alloc (.cells #[] e)).ownsRow base e 1 (.slice (some ⟨g, 0, none⟩) 0 0) 0 [] := by
  subst hg; exact own_empty w base e hb

theorem radd_bad {w : World} {D : Nat} {s id : Int} (h : okA s id = false) (Q : Ending → World → Prop) (hQ : Q (.returned (.int .i64 1)) w) :
    Calls Try.prog 22 #[ptr D, .int .i64 s, .int .i64 id] w Q := by
  have HQ := Lib.hid hQ
  clear hQ
  simp only [okA, decide_eq_false_iff_not] at h
  have hc : s < 0 ∨ (0 ≤ s ∧ 63 < s) ∨ (0 ≤ s ∧ s ≤ 63 ∧ id < 0) ∨ (0 ≤ s ∧ s ≤ 63 ∧ 0 ≤ id ∧ 1048575 < id) := by omega
  clear h
  rcases hc with h1 | ⟨h1, h2⟩ | ⟨h1, h2, h3⟩ | ⟨h1, h2, h3, h4⟩
  all_goals
    go_enter Try.func22, Try.ntmps22
    go_wp2
    all_goals exact HQ.out

set_option maxHeartbeats 1600000 in
theorem radd_ok {w : World} {D s : Nat} {L : Nat → List Int} (h : Doc w D L) (hl : ∀ s, s < 64 → (L s).length ≤ 100000) (hs : s < 64) (id : Int) (hid0 : 0 ≤ id) (hid1 : id ≤ 1048575) (o : Option Nat) (ho : ∀ s, o = some s → s < 64 ∧ id ∈ L s ∧ ∀ t, t < s → id ∉ L t) (hn : o = none → ∀ s, s < 64 → id ∉ L s) (L1 : Nat → List Int) (hL1 : L1 = dropL o L id) (hl1 : (L1 s).length ≤ 100000) (Q : Ending → World → Prop)
    (hQ : ∀ w', Doc w' D (updL L1 s (L1 s ++ [id])) → Only (fun k => k = D) w w' → Q (.returned (.int .i64 0)) w') :
    Calls Try.prog 22 #[ptr D, .int .i64 (s : Int), .int .i64 id] w Q := by
  have HD := Lib.hid (rdrop_any h hl id o ho hn)
  rw [← hL1] at HD
  have HQ := Lib.hid hQ
  have hs0 : (0 : Int) ≤ (s : Int) := by omega
  have hs1 : (s : Int) < 64 := by omega
  clear hQ h hl ho hn hL1
  go_enter Try.func22, Try.ntmps22
  go_wp2_with fail
  refine HD.out _ fun w1 h1 ho1 => ?_
  obtain ⟨A, c, c0, hv, hb⟩ := h1.cell s hs
  have fz := h1.blk.frozen s
  have H1 := Lib.hid (And.intro h1 ho1)
  have HV := Lib.hid hv
  have hDl := h1.blk.lt
  generalize hLs : L1 s = l at *
  clear hLs h1 ho1 hv hb
  go_wp2_with fail
  go_region_law (first
    | (refine step_app (by rfl) (.tmp 26) (.tmp 32) 26 rfl w1.heap.size 3 Try.underlying26 infoInt rfl (.slice (some ⟨w1.heap.size, 0, none⟩) 0 0) 0 [] rfl (own_empty w1.drew _ 3 (Nat.le_refl _)) A l.length c (ivals l) rfl (IsVals.alloc HV.out _) (ivals_cell _) (by unfold maxLen; omega) (by omega) (by simp) ?_; intro A1 c1 w2 ho2 hg2; rw [Nat.zero_add, List.nil_append] at ho2; have HB2 := Lib.hid (own_grown ((Below.refl _ w1).drew.alloc (Nat.le_refl _) _) (own_empty w1.drew _ 3 (Nat.le_refl _)) hg2 (by simp)); have HO2 := Lib.hid ho2; have hz2 := HB2.out.size; clear ho2 hg2)
    | (refine step_app (by rfl) (.tmp 26) (.tmp 32) 26 rfl w1.heap.size 3 Try.underlying26 infoInt rfl (.slice (some ⟨w1.heap.size, 0, none⟩) 0 0) 0 [] rfl ((own_empty w1 _ 3 (Nat.le_refl _)).alloc (.cells #[.int .i64 id] 3)) A l.length c (ivals l) rfl ((IsVals.alloc HV.out (.cells #[] 3)).alloc (.cells #[.int .i64 id] 3)) (ivals_cell _) (by unfold maxLen; omega) (by omega) (by simp; omega) ?_; intro A1 c1 w2 ho2 hg2; rw [Nat.zero_add, List.nil_append] at ho2; have HB2 := Lib.hid (own_grown ((((Below.refl _ w1).alloc (Nat.le_refl _) (.cells #[] 3)).alloc (by simp) (.cells #[.int .i64 id] 3)).drew) ((own_empty w1 _ 3 (Nat.le_refl _)).alloc (.cells #[.int .i64 id] 3)) hg2 (by simp; omega)); have HO2 := Lib.hid ho2; have hz2 := HB2.out.size; have HN2 : Hid (IsVals w2 (some ⟨w1.heap.size + 1, 0, none⟩) 1 [.int .i64 id]) := Lib.hid (((show IsVals ((w1.alloc (.cells #[] 3)).alloc (.cells #[.int .i64 id] 3)).drew (some ⟨w1.heap.size + 1, 0, none⟩) 1 [.int .i64 id] from vals_at (w := w1.alloc (.cells #[] 3)) (by simp) #[.int .i64 id] 3)).only (F := fun k => k = w1.heap.size) ((Only.refl (fun k => k = w1.heap.size) _).grown hg2 (fun k hk => .inl (by cases hk; rfl))) (fun b o e => by cases e; exact Nat.succ_ne_self _)); clear ho2 hg2)
    | (refine step_app (by rfl) (.tmp 26) (.tmp 32) 26 rfl w1.heap.size 3 Try.underlying26 infoInt rfl (.slice (some ⟨w1.heap.size + 1, 0, none⟩) 0 0) 0 [] rfl (own_empty_at (w := w1.alloc (.cells #[.int .i64 id] 3)) (by simp) _ 3 (by simp)) A l.length c (ivals l) rfl ((IsVals.alloc HV.out (.cells #[.int .i64 id] 3)).alloc (.cells #[] 3)) (ivals_cell _) (by unfold maxLen; omega) (by omega) (by simp; omega) ?_; intro A1 c1 w2 ho2 hg2; rw [Nat.zero_add, List.nil_append] at ho2; have HB2 := Lib.hid (own_grown ((((Below.refl _ w1).alloc (Nat.le_refl _) (.cells #[.int .i64 id] 3)).alloc (by simp) (.cells #[] 3)).drew) (own_empty_at (w := w1.alloc (.cells #[.int .i64 id] 3)) (by simp) _ 3 (by simp)) hg2 (by simp; omega)); have HO2 := Lib.hid ho2; have hz2 := HB2.out.size; have HN2 : Hid (IsVals w2 (some ⟨w1.heap.size, 0, none⟩) 1 [.int .i64 id]) := Lib.hid ((show IsVals ((w1.alloc (.cells #[.int .i64 id] 3)).alloc (.cells #[] 3)).drew (some ⟨w1.heap.size, 0, none⟩) 1 [.int .i64 id] from (vals_one w1 _ 3).alloc _).only (F := fun k => k = w1.heap.size + 1) ((Only.refl (fun k => k = w1.heap.size + 1) _).grown hg2 (fun k hk => .inl (by cases hk; rfl))) (fun b o e => by cases e; exact Nat.ne_of_lt (Nat.lt_succ_self _))); clear ho2 hg2)
    | (refine step_app (by rfl) (.tmp 33) (.tmp 35) 26 rfl w1.heap.size 3 Try.underlying26 infoInt rfl (.slice A1 l.length c1) l.length (ivals l) rfl HO2.out (some ⟨w1.heap.size + 1, 0, none⟩) 1 1 [.int .i64 id] rfl HN2.out (by simp [Value.oneCell']) (by unfold maxLen; omega) (by omega) hz2 ?_; intro A3 c3 w3 ho3 hg3; have HB3 := Lib.hid (own_grown HB2.out HO2.out hg3 hz2); have HO3 := Lib.hid ho3; have f3 := (HB3.out.cell (p := ⟨D, s, none⟩) hDl).trans c0; have z3 := (HB3.out.frozen (p := ⟨D, s, none⟩) hDl).trans fz; clear ho3 hg3)
    | (refine step_app (by rfl) (.tmp 33) (.tmp 35) 26 rfl w1.heap.size 3 Try.underlying26 infoInt rfl (.slice A1 l.length c1) l.length (ivals l) rfl HO2.out (some ⟨w1.heap.size, 0, none⟩) 1 1 [.int .i64 id] rfl HN2.out (by simp [Value.oneCell']) (by unfold maxLen; omega) (by omega) hz2 ?_; intro A3 c3 w3 ho3 hg3; have HB3 := Lib.hid (own_grown HB2.out HO2.out hg3 hz2); have HO3 := Lib.hid ho3; have f3 := (HB3.out.cell (p := ⟨D, s, none⟩) hDl).trans c0; have z3 := (HB3.out.frozen (p := ⟨D, s, none⟩) hDl).trans fz; clear ho3 hg3)
    | (refine step_app (by rfl) (.tmp 33) (.tmp 35) 26 rfl w1.heap.size 3 Try.underlying26 infoInt rfl (.slice A1 l.length c1) l.length (ivals l) rfl (HO2.out.alloc _) (some ⟨w2.heap.size, 0, none⟩) 1 1 [.int .i64 id] rfl (vals_one _ _ _) (by simp [Value.oneCell']) (by unfold maxLen; omega) (by omega) (by simp; omega) ?_; intro A3 c3 w3 ho3 hg3; have HB3 := Lib.hid (own_grown (HB2.out.alloc hz2 _) (HO2.out.alloc _) hg3 (by simp; omega)); have HO3 := Lib.hid ho3; have f3 := (HB3.out.cell (p := ⟨D, s, none⟩) hDl).trans c0; have z3 := (HB3.out.frozen (p := ⟨D, s, none⟩) hDl).trans fz; clear ho3 hg3))
  all_goals
    have hfin : Hid (Q (.returned (.int .i64 0)) (w3.setCell ⟨D, s, none⟩ (.slice A3 (l.length + 1) c3))) := Lib.hid (by
      have h3 := HO3.out
      have hv3 : IsInts w3 A3 (l.length + 1) (l ++ [id]) := by
        obtain ⟨_, _, e, hv1, _⟩ := vals_of_own h3
        obtain ⟨rfl, rfl⟩ : A3 = _ ∧ c3 = _ := by simpa using e
        unfold IsInts
        rw [ivals_append]
        exact hv1
      obtain ⟨d1, d2⟩ := (H1.out.1.below HB3.out).set_ (c := c3) (H1.out.2.trans (Only.ofBelow (F := fun k => k = D) HB3.out) (fun _ hi => .inl hi)) hs (by simp) hv3 (own_blk h3)
      exact HQ.out _ d1 d2)
    go_wp2_with fail
    exact hfin.out
end Go.Proofs.Ytbhhbddmokddeaa
