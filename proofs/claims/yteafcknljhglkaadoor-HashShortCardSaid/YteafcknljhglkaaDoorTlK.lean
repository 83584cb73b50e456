/-
  The operation append over tree values.
-/
import Derived.Test.YteafcknljhglkaaDoorTlJ
set_option linter.unusedVariables false
set_option linter.unusedSimpArgs false
namespace Go.Proofs.YteafcknljhglkaaDoor.TL
open Go.RowKit

def kill (S : TS) : Tag → TS
  | .own k => S.set k .gone
  | _ => S
@[simp] theorem kill_n (S : TS) (g : Tag) : (kill S g).n = S.n := by cases g <;> rfl
theorem Rel.kill {w0 : World} {c : Cx} {S : TS} {w : World} (h : Rel w0 c S w) (g : Tag) : Rel w0 c (kill S g) w := by
  cases g <;> first | exact h | exact h.drop _

def rowTag (S : TS) : Tag → Prop
  | .none => False
  | .full => True
  | .own k => S.objs k = .lin

theorem append_ok {E : Env} {w0 : World} {c : Cx} {S : TS} {w : World} (hk : Ok E w0 c S w) {t u ty e : TypeId} {i j iu : TI} (ht : TyIs E.P t i) (hd : i.desc = .slice e) (hj : TyIs E.P e j) (hu : TyIs E.P u iu) (hnu : ∀ k, iu.desc ≠ .int k)
    {g : Tag} {s : Nat} {xs ys : List D} {tx : TV} {vx vy : Value} (hx : RdT c w (.sl g s xs) vx) (hs : s = j.size ∨ (xs = [] ∧ g = .full)) (hg : rowTag S g) (hy : RdT c w tx vy) (hsrc : srcD S (isAggD j.desc) j.size tx = some ys)
    (hb : (xs.length + ys.length) * j.bytes ≤ LIM) (hb0 : 0 < j.bytes) (hz : j.zero.cells.size = j.size) (h0 : 0 < j.size) :
    ∃ v w', (Builtin.append_ #[t, u] ty #[vx, vy]).run E.P w = .ok v w' ∧ Fin E w0 c w (fun r S' => r = .sl (.own S.n) j.size (xs ++ ys) ∧ S' = (kill S g).push .lin) v w' := by
  obtain ⟨news, hlen, hfirst, hnews, _, _⟩ := srcD_ok hk hy hsrc
  have hlim : xs.length + ys.length ≤ LIM := Nat.le_trans (Nat.le_mul_of_pos_right _ hb0) hb
  have hnl : news.length = ys.length * j.size := hnews.len
  cases hx with
  | sl _ _ _ _ hdx htag =>
  have hform : ∃ a n cap, vx = .slice a n cap ∧ xs.length = n ∧ n ≤ cap := by
    cases hdx with
    | nil _ a cap => exact ⟨a, 0, cap, rfl, rfl, by omega⟩
    | sl _ _ b o n cap hn hc _ _ => exact ⟨_, n, cap, rfl, hn, hc⟩
  obtain ⟨a, n, cap, rfl, hn, hcap⟩ := hform
  obtain ⟨olds, ho1, _, _, ho4⟩ := hdx.cells_of
  have ho1' : RdEs c.A w j.size xs olds := by
    rcases hs with hs | ⟨hs, _⟩
    · rw [← hs]; exact ho1
    · subst hs
      have := ho1.len
      simp at this
      subst this
      exact .nil _ _ _
  by_cases hfit : n + ys.length ≤ cap
  · have hrun := run_append_fits (ty := ty) (w := w) ht hd hj hu hnu a n cap vy ys.length news hlen (hfirst w rfl) hfit
    by_cases hcn : cap = n
    · -- nothing is appended
      have hm0 : ys.length = 0 := by omega
      have hys : ys = [] := List.eq_nil_of_length_eq_zero hm0
      subst hys
      have hne : news = [] := List.eq_nil_of_length_eq_zero (by rw [hnl]; simp)
      subst hne
      obtain ⟨c', r1, r3, r2⟩ := (hk.rel.kill g).virtual
      have hcn' : c'.n = S.n + 1 := by rw [r1.cn, TS.push_n, kill_n]
      rw [kill_n] at r2
      refine ⟨.slice a n cap, w, ?_, _, c', _, hk.step r1 r3, r3, ?_, rfl, rfl⟩
      · rw [hrun]
        cases a <;> simp [storeCells]
      · rw [List.append_nil]
        refine .sl _ _ _ _ ?_ ⟨by rw [hcn']; omega, .inl hcn⟩
        rcases hs with hs | ⟨hs, _⟩
        · rw [← hs]; exact hdx.step r3
        · subst hs
          simp at hn
          subst hn
          exact .nil _ _ _
    · -- in place
      cases g with
      | none => exact hg.elim
      | full => exact absurd htag hcn
      | own k =>
        obtain ⟨htag0, htag⟩ := htag
        rcases htag with htag | ⟨b, o, e', z, rfl, hγ, he, hz'⟩
        · exact absurd htag hcn
        · rcases hs with hs | ⟨_, hs⟩
          · subst hs
            have hez : e' + ys.length * j.size ≤ z := by
              have : o + (n + ys.length) * j.size ≤ o + cap * j.size := Nat.add_le_add_left (Nat.mul_le_mul_right _ hfit) o
              rw [Nat.add_mul] at this
              omega
            obtain ⟨c', w', k1, k2, k3, k4, k5⟩ := hk.rel.extend (P := E.P) hg hγ news hnl hez hnews.flat
            refine ⟨.slice (some ⟨b, o, none⟩) (n + ys.length) cap, w', ?_, _, c', _, hk.step k2 k3, k3, ?_, rfl, rfl⟩
            · rw [hrun]
              simp only [addr_add, he, k1, Result.andThen_ok]
            · refine .sl _ _ _ _ ?_ ⟨by rw [k2.cn]; show S.n < S.n + 1; omega, .inr ⟨b, o, e' + ys.length * j.size, z, rfl, k4, by rw [Nat.add_mul]; omega, hz'⟩⟩
              have hall := (ho1'.step k3).append (hnews.step k3)
              refine hall.sl (by simp [hn]) hfit (by rw [← hn]; exact hlim) ?_
              intro q v hq
              have hol : olds.length = n * j.size := by rw [ho1'.len, hn]
              rcases Nat.lt_or_ge q olds.length with h | h
              · rw [List.getElem?_append_left h] at hq
                have hn0 : n ≠ 0 := by intro hh; rw [hh, Nat.zero_mul] at hol; omega
                -- the old cells: fixed ones
                have hA : c.A b (o + q) ∧ w.cell? ⟨b, o + q, none⟩ = some v := by
                  cases hdx with
                  | nil => exact absurd rfl hn0
                  | sl _ _ _ _ _ _ _ _ _ hh =>
                    have hqi : q / j.size < xs.length := by
                      rw [Nat.div_lt_iff_lt_mul h0, hn]; omega
                    have hel := hh (q / j.size) _ (List.getElem?_eq_getElem hqi)
                    obtain ⟨us, u1, u2, _⟩ := hel.toE
                    have hmod : q % j.size < us.length := by rw [u1]; exact Nat.mod_lt _ h0
                    have := u2 (q % j.size) _ (List.getElem?_eq_getElem hmod)
                    rw [Nat.add_assoc, Nat.mul_comm, Nat.div_add_mod] at this
                    rcases ho4 with ho4 | ⟨b2, o2, hbo, ho4⟩
                    · exact absurd ho4 hn0
                    · injection hbo with hbo; injection hbo with hb1 ho1; subst hb1 ho1
                      exact ⟨this.2, ho4 q v hq⟩
                exact ⟨(k3.cell _ _ hA.1).trans hA.2, k3.A _ _ hA.1⟩
              · rw [List.getElem?_append_right h] at hq
                have := k5 (q - olds.length) v hq
                rw [show e' + (q - olds.length) = o + q by omega] at this
                exact this
          · cases hs
  · -- a new row
    have hd1 := hk.rel.drew
    have hold : (Builtin.firstCells j.size n (.slice a n cap)).run E.P w.drew = .ok olds.toArray w.drew := by
      rcases ho4 with ho4 | ⟨b, o, rfl, ho4⟩
      · have hxs : xs = [] := List.eq_nil_of_length_eq_zero (by omega)
        subst hxs
        have : olds = [] := List.eq_nil_of_length_eq_zero (by have := ho1'.len; simpa using this)
        subst this
        subst ho4
        cases a with
        | none => simp [Builtin.firstCells]
        | some a => simp [Builtin.firstCells, loadCells, loadCellsFrom]
      · refine run_firstCells_some w.drew j.size n ⟨b, o, none⟩ n cap olds (by rw [ho1'.len, hn]) fun q v hq => ?_
        rw [addr_add, World.cell?_drew]; exact ho4 q v hq
    have hLIM : LIM = 140737488355328 := rfl
    have hbb : (n + ys.length) * j.bytes ≤ 140737488355328 := by rw [← hn]; exact hb
    have h63 : ((n + ys.length : Nat) : Int) ≤ 9223372036854775807 := by
      have : n + ys.length ≤ LIM := by rw [← hn]; exact hlim
      omega
    have hrun := run_append_grows (ty := ty) (w := w) ht hd hj hu hnu a n cap vy ys.length olds news hlen (hfirst w.drew rfl) hold hfit h63 (growslice_fits (by omega) hbb)
    generalize hnc : grownCap w (n + ys.length) cap e = nc at hrun
    have hncge : n + ys.length ≤ nc := by rw [← hnc]; exact grown_ge w _ _ _
    generalize hcells : olds.toArray ++ news.toArray ++ Builtin.zeroCells j.zero.cells (nc - (n + ys.length)) = arr at hrun
    have hasz : arr.size = nc * j.size := by
      rw [← hcells]
      simp only [Array.size_append, List.size_toArray, size_zeroCells, hz, ho1'.len, hnl, hn]
      rw [← Nat.add_mul, ← Nat.add_mul]
      congr 1; omega
    have harr : ∀ (q : Nat) v, (olds ++ news)[q]? = some v → arr[q]? = some v := by
      intro q v hq
      rw [← hcells]
      have hql : q < (olds ++ news).length := by
        rcases Nat.lt_or_ge q (olds ++ news).length with h | h
        · exact h
        · rw [List.getElem?_eq_none h] at hq; cases hq
      rw [Array.getElem?_append_left (by simpa using hql)]
      simpa using hq
    have hlen2 : (olds ++ news).length = (n + ys.length) * j.size := by simp [ho1'.len, hnl, hn, Nat.add_mul]
    obtain ⟨c', r, m, gn, hA⟩ := (hd1.1.kill g).alloc (.cells arr e) .lin ((n + ys.length) * j.size, nc * j.size) (fun q => q < (n + ys.length) * j.size)
      (fun q hq => by
        rw [World.cell?_alloc_new]
        have : q < arr.size := by rw [hasz]; exact Nat.lt_of_lt_of_le hq (Nat.mul_le_mul_right _ hncge)
        exact ⟨arr[q], Array.getElem?_eq_getElem this⟩)
      (by
        intro c' m gn hA b' e'' hb'
        rw [kill_n] at gn hb'
        rw [gn] at hb'
        injection hb' with hb'; injection hb' with h1 h2; subst h1 h2
        refine ⟨hd1.1.le, ⟨arr, e, (0, 0), heap_alloc_new _ _, by rw [hasz]; exact Nat.le_refl _⟩, fun q _ _ => by rw [World.frozen?_alloc_new], fun q hq ha => ?_⟩
        have := (hA q).1 ha
        simp only at hq
        omega)
    have mm : Mono c w c' (w.drew.alloc (.cells arr e)) := hd1.2.trans m
    refine ⟨_, _, hrun, _, c', _, hk.step r mm, mm, ?_, rfl, rfl⟩
    have hall := (ho1'.step mm).append (hnews.step mm)
    refine .sl _ _ _ _ (hall.sl (by simp [hn]) hncge (by rw [← hn]; exact hlim) ?_) ⟨by rw [r.cn, TS.push_n, kill_n]; omega, .inr ⟨w.heap.size, 0, (n + ys.length) * j.size, nc * j.size, rfl, by rw [kill_n] at gn; exact gn, by simp, by simp⟩⟩
    intro q v hq
    rw [Nat.zero_add]
    have hql : q < (olds ++ news).length := by
      rcases Nat.lt_or_ge q (olds ++ news).length with h | h
      · exact h
      · rw [List.getElem?_eq_none h] at hq; cases hq
    refine ⟨?_, (hA q).2 (by rw [← hlen2]; exact hql)⟩
    have := World.cell?_alloc_new w.drew arr e q
    rw [World.size_drew] at this
    rw [this]
    exact harr q v hq

theorem e_append {E : Env} {o : Oper} {T : Nat → TV} {S : TS} {x y : Operand} {t u e : TypeId} (ho : o.op = .call { callee := .builtin .append, args := #[x, y], argTypes := #[t, u] }) {i j iu : TI} {g : Tag} {s : Nat} {xs ys : List D} {K : TV → TS → Prop}
    (ht : tiOf E.P t = some i) (hd : i.desc = .slice e) (hj : tiOf E.P e = some j) (hu : tiOf E.P u = some iu) (hnu : ∀ k, iu.desc ≠ .int k)
    (hx : evO E T x = .sl g s xs) (hs : s = j.size ∨ (xs = [] ∧ g = .full)) (hg : rowTag S g) (hy : srcD S (isAggD j.desc) j.size (evO E T y) = some ys)
    (hb : (xs.length + ys.length) * j.bytes ≤ LIM) (hb0 : 0 < j.bytes) (hz : j.zero.cells.size = j.size) (h0 : 0 < j.size)
    (hK : K (.sl (.own S.n) j.size (xs ++ ys)) ((kill S g).push .lin)) : ESem E o T S K := by
  refine .of_run fun w0 c w a hk hop => ?_
  rw [ho] at hop
  have h1 := hop x (by simp [Op.operands, Call.operands])
  have h2 := hop y (by simp [Op.operands, Call.operands])
  rw [hx] at h1
  obtain ⟨v, w', hr, r, c', S', k1, k2, k3, rfl, rfl⟩ := append_ok hk (ty := o.type) (tyIs ht) hd (tyIs hj) (tyIs hu) hnu h1 hs hg h2 hy hb hb0 hz h0
  refine ⟨v, w', .inl ?_, _, c', _, k1, k2, k3, hK⟩
  unfold execOp
  rw [ho]
  simp only [resolve, Sem.run_bind, Sem.run_pure, Result.andThen_ok, invoke, builtin, List.map_toArray, List.map_cons, List.map_nil, hr]
end Go.Proofs.YteafcknljhglkaaDoor.TL
