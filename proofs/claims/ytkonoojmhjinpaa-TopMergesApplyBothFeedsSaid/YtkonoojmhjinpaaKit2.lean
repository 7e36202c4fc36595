/- A region that draws its order: two arrays are loaded and stored (the end of a function with two arrays for results). And reading of bytes. -/
import Derived.Test.YtkonoojmhjinpaaKit
import Derived.Orders
set_option linter.all false
namespace Go.Fen
open Go Go.RowKit
variable {P : Program}

theorem setRow_comm (w : World) (g h : Nat) (c d : Array Value) (hgh : g ≠ h) : (w.setRow g c).setRow h d = (w.setRow h d).setRow g c := by
  unfold World.setRow
  congr 1
  apply Array.ext
  · simp
  · intro i h1 h2
    simp only [Array.getElem_modify]
    by_cases e1 : g = i
    · have e2 : ¬ h = i := fun e => hgh (e1.trans e.symm)
      simp only [if_pos e1, if_neg e2]
    · simp only [if_neg e1]

theorem put_comm (a : Act) (d e : Tmp) (u v : Value) (h : d ≠ e) : (a.put (some d) u).put (some e) v = (a.put (some e) v).put (some d) u := by
  simp only [Act.put]
  congr 1
  exact Array.setIfInBounds_comm _ _ h

section
variable {ops : Array Oper} {Q : Exit → Act → World → Prop} {a : Act} {w : World} {K : Act → World → Prop}

theorem wpOp_of {i : Nat} {o : Oper} (ho : ops[i]? = some o) (hg : o.guard = none) (h : o.wp P a w K Q) : wpOp P ops Q i K a w := by
  unfold wpOp
  rw [ho]
  simp only [Region.wanted, hg, if_true]
  exact .inl h

theorem wp_load_arr {o : Oper} (ty : TypeId) (x : Operand) (ho : o.op = .load ty x) (d : Tmp) (hd : o.dst = some d) (g : Nat) (t : TypeId) (cs : Array Value) {n : Nat} {e : TypeId}
    (hu : P.underlying ty = some (.array n e)) (hs : (P.info? ty).map (·.size) = some cs.size) (hx : a.eval x = .pointer (some ⟨g, 0, none⟩)) (hr : Row w g t cs)
    (h : K (a.put (some d) (.agg cs)) w) : o.wp P a w K Q :=
  wp_load_row ty x ho g hx t cs (0, 0) _ hr hu rfl hs (hd ▸ h)

/-- a guarded operation whose guard says yes -/
theorem wpList_wanted {rest : List Oper} {o : Oper} (hw : Region.wanted o (yielded ops a.tmps) = true) (h : ∀ K : Act → World → Prop, (∀ a w, wpList P ops Q rest a w → K a w) → o.wp P a w K Q) : wpList P ops Q (o :: rest) a w :=
  wpList_step fun K hK => by rw [if_pos hw]; exact h K hK

theorem wp_put_arr {o : Oper} (ty : TypeId) (p x : Operand) (ho : o.op = .store ty p x) (hd : o.dst = none) (g : Nat) (t : TypeId) (old cs : Array Value)
    (hp : a.eval p = .pointer (some ⟨g, 0, none⟩)) (hx : a.eval x = .agg cs) (hr : Row w g t old) (hs : (P.info? ty).map (·.size) = some cs.size) (hzs : old.size = cs.size) (hone : cs.all (·.oneCell') = true)
    (h : K a (w.setRow g cs)) : o.wp P a w K Q := by
  unfold Oper.wp execOp
  simp only [ho, hp, hx, Sem.run_bind, Instr.storeAt, Instr.sureAddr, Sem.run_pure, Result.andThen_ok, run_storeVar_row w g t ty old cs hr hs hzs hone]
  show K (a.put o.dst undef) _
  rw [hd]
  exact h

/-- Two arrays are read and stored, in whatever order. -/
theorem wp_region_out2 {id : Nat} {o0 o1 o2 o3 : Oper} (hm : P.follows .mixedOrders = true) (hops : ops = #[o0, o1, o2, o3])
    (r0 : Region.ready .any ops #[false, false, false, false] = [0, 1]) (r1 : Region.ready .any ops #[true, false, false, false] = [1, 2]) (r2 : Region.ready .any ops #[false, true, false, false] = [0])
    (r3 : Region.ready .any ops #[true, true, false, false] = [2]) (r4 : Region.ready .any ops #[true, false, true, false] = [1]) (r5 : Region.ready .any ops #[true, true, true, false] = [3])
    (r6 : Region.ready .any ops #[true, true, true, true] = [])
    (g0 : o0.guard = none) (g1 : o1.guard = none) (g2 : o2.guard = none) (g3 : o3.guard = none)
    (ty0 ty1 : TypeId) {n0 n1 : Nat} {e0 e1 : TypeId} (hu0 : P.underlying ty0 = some (.array n0 e0)) (hu1 : P.underlying ty1 = some (.array n1 e1)) (x0 x1 p0 p1 : Operand) (d0 d1 : Tmp) (hd : d0 ≠ d1)
    (h0 : o0.op = .load ty0 x0) (h1 : o1.op = .load ty1 x1) (h2 : o2.op = .store ty0 p0 (.tmp d0)) (h3 : o3.op = .store ty1 p1 (.tmp d1)) (k0 : o0.dst = some d0) (k1 : o1.dst = some d1) (k2 : o2.dst = none) (k3 : o3.dst = none)
    (b0 b1 c0 c1 : Nat) (hc : c0 ≠ c1) (hb : b1 ≠ c0) (t0 t1 u0 u1 : TypeId) (cs0 cs1 old0 old1 : Array Value) (hs0 : (P.info? ty0).map (·.size) = some cs0.size) (hs1 : (P.info? ty1).map (·.size) = some cs1.size)
    (ho0 : old0.size = cs0.size) (ho1 : old1.size = cs1.size) (hn0 : cs0.all (·.oneCell') = true) (hn1 : cs1.all (·.oneCell') = true)
    (hr0 : Row w b0 t0 cs0) (hr1 : Row w b1 t1 cs1) (hq0 : Row w c0 u0 old0) (hq1 : Row w c1 u1 old1)
    (ex0 : a.eval x0 = .pointer (some ⟨b0, 0, none⟩)) (ex0' : (a.put (some d1) (.agg cs1)).eval x0 = .pointer (some ⟨b0, 0, none⟩))
    (ex1 : a.eval x1 = .pointer (some ⟨b1, 0, none⟩)) (ex1' : (a.put (some d0) (.agg cs0)).eval x1 = .pointer (some ⟨b1, 0, none⟩))
    (ep0' : (a.put (some d0) (.agg cs0)).eval p0 = .pointer (some ⟨c0, 0, none⟩)) (ed0' : (a.put (some d0) (.agg cs0)).eval (.tmp d0) = .agg cs0)
    (ep0 : ((a.put (some d0) (.agg cs0)).put (some d1) (.agg cs1)).eval p0 = .pointer (some ⟨c0, 0, none⟩)) (ep1 : ((a.put (some d0) (.agg cs0)).put (some d1) (.agg cs1)).eval p1 = .pointer (some ⟨c1, 0, none⟩))
    (ed0 : ((a.put (some d0) (.agg cs0)).put (some d1) (.agg cs1)).eval (.tmp d0) = .agg cs0) (ed1 : ((a.put (some d0) (.agg cs0)).put (some d1) (.agg cs1)).eval (.tmp d1) = .agg cs1)
    (h : Q .normal ((a.put (some d0) (.agg cs0)).put (some d1) (.agg cs1)) ((w.drew.setRow c0 cs0).setRow c1 cs1)) : (Code.region id ops true).wp P Q a w := by
  refine wp_region_any hm ?_
  have i0 : ops[0]? = some o0 := by rw [hops]; rfl
  have i1 : ops[1]? = some o1 := by rw [hops]; rfl
  have i2 : ops[2]? = some o2 := by rw [hops]; rfl
  have i3 : ops[3]? = some o3 := by rw [hops]; rfl
  have hsz : ops.size = 4 := by rw [hops]; rfl
  rw [hsz]
  show wpAny P .any ops Q 4 #[false, false, false, false] a w.drew
  have last : wpAny P .any ops Q 1 #[true, true, true, false] ((a.put (some d0) (.agg cs0)).put (some d1) (.agg cs1)) (w.drew.setRow c0 cs0) := by
    refine ⟨fun e => (by rw [r5] at e; simp at e), ?_⟩
    rw [r5]
    intro i hi
    simp only [List.mem_cons, List.not_mem_nil, or_false] at hi
    subst hi
    refine wpOp_of i3 g3 (wp_put_arr ty1 p1 _ h3 k3 c1 u1 old1 cs1 ep1 ed1 (Row.setRowOther (w := w.drew) hq1 cs0 (fun e => hc e.symm)) hs1 ho1 hn1 ?_)
    exact ⟨r6, h⟩
  have tail : wpAny P .any ops Q 2 #[true, true, false, false] ((a.put (some d0) (.agg cs0)).put (some d1) (.agg cs1)) w.drew := by
    refine ⟨fun e => (by rw [r3] at e; simp at e), ?_⟩
    rw [r3]
    intro i hi
    simp only [List.mem_cons, List.not_mem_nil, or_false] at hi
    subst hi
    exact wpOp_of i2 g2 (wp_put_arr ty0 p0 _ h2 k2 c0 u0 old0 cs0 ep0 ed0 hq0 hs0 ho0 hn0 last)
  refine ⟨fun e => (by rw [r0] at e; simp at e), ?_⟩
  rw [r0]
  intro i hi
  simp only [List.mem_cons, List.not_mem_nil, or_false] at hi
  rcases hi with rfl | rfl
  · refine wpOp_of i0 g0 (wp_load_arr ty0 x0 h0 d0 k0 b0 t0 cs0 hu0 hs0 ex0 hr0 ?_)
    show wpAny P .any ops Q 3 #[true, false, false, false] _ _
    refine ⟨fun e => (by rw [r1] at e; simp at e), ?_⟩
    rw [r1]
    intro i hi
    simp only [List.mem_cons, List.not_mem_nil, or_false] at hi
    rcases hi with rfl | rfl
    · exact wpOp_of i1 g1 (wp_load_arr ty1 x1 h1 d1 k1 b1 t1 cs1 hu1 hs1 ex1' hr1 tail)
    · refine wpOp_of i2 g2 (wp_put_arr ty0 p0 _ h2 k2 c0 u0 old0 cs0 ep0' ed0' hq0 hs0 ho0 hn0 ?_)
      show wpAny P .any ops Q 2 #[true, false, true, false] _ _
      refine ⟨fun e => (by rw [r4] at e; simp at e), ?_⟩
      rw [r4]
      intro i hi
      simp only [List.mem_cons, List.not_mem_nil, or_false] at hi
      subst hi
      exact wpOp_of i1 g1 (wp_load_arr ty1 x1 h1 d1 k1 b1 t1 cs1 hu1 hs1 ex1' (Row.setRowOther (w := w.drew) hr1 cs0 hb) last)
  · refine wpOp_of i1 g1 (wp_load_arr ty1 x1 h1 d1 k1 b1 t1 cs1 hu1 hs1 ex1 hr1 ?_)
    show wpAny P .any ops Q 3 #[false, true, false, false] _ _
    refine ⟨fun e => (by rw [r2] at e; simp at e), ?_⟩
    rw [r2]
    intro i hi
    simp only [List.mem_cons, List.not_mem_nil, or_false] at hi
    subst hi
    refine wpOp_of i0 g0 (wp_load_arr ty0 x0 h0 d0 k0 b0 t0 cs0 hu0 hs0 ex0' hr0 ?_)
    rw [put_comm _ d1 d0 _ _ (fun e => hd e.symm)]
    exact tail

theorem setRow_alloc_old (w : World) (o : Obj) (g : Nat) (c : Array Value) (hg : g < w.heap.size) : (w.alloc o).setRow g c = (w.setRow g c).alloc o := by
  show World.mk ((w.heap.push o).modify g _) _ _ _ _ = World.mk ((w.heap.modify g _).push o) _ _ _ _
  congr 1
  apply Array.ext_getElem?
  intro i
  simp only [Array.getElem?_modify, Array.getElem?_push, Array.size_modify]
  by_cases e1 : g = i
  · subst e1
    simp [Nat.ne_of_lt hg]
  · simp [e1]

/-- 'x, y := <two arrays>': two new variables, laid and filled. -/
theorem wpList_new2 {rest : List Oper} {o1 o2 o3 o4 : Oper} (h1 : o1.guard = none) (h2 : o2.guard = none) (h3 : o3.guard = none) (h4 : o4.guard = none) (ty tz : TypeId) (d e : Tmp) (x y : Operand)
    (ho1 : o1.op = .alloc ty) (hd1 : o1.dst = some d) (ho2 : o2.op = .alloc tz) (hd2 : o2.dst = some e) (ho3 : o3.op = .store ty (.tmp d) x) (hd3 : o3.dst = none) (ho4 : o4.op = .store tz (.tmp e) y) (hd4 : o4.dst = none)
    (g g' : Nat) (hg : g = w.heap.size) (hg' : g' = w.heap.size + 1) (cs ds : Array Value)
    (hp : ((a.put (some d) (.pointer (some ⟨g, 0, none⟩))).put (some e) (.pointer (some ⟨g', 0, none⟩))).eval (.tmp d) = .pointer (some ⟨g, 0, none⟩))
    (hq : ((a.put (some d) (.pointer (some ⟨g, 0, none⟩))).put (some e) (.pointer (some ⟨g', 0, none⟩))).eval (.tmp e) = .pointer (some ⟨g', 0, none⟩))
    (hx : ((a.put (some d) (.pointer (some ⟨g, 0, none⟩))).put (some e) (.pointer (some ⟨g', 0, none⟩))).eval x = .agg cs)
    (hy : ((a.put (some d) (.pointer (some ⟨g, 0, none⟩))).put (some e) (.pointer (some ⟨g', 0, none⟩))).eval y = .agg ds)
    (z z' : Array Value) (hz : (P.info? ty).bind (·.zero) = some (.agg z)) (hz' : (P.info? tz).bind (·.zero) = some (.agg z')) (hs : (P.info? ty).map (·.size) = some cs.size) (hs' : (P.info? tz).map (·.size) = some ds.size)
    (hzs : z.size = cs.size) (hzs' : z'.size = ds.size) (hone : cs.all (·.oneCell') = true) (hone' : ds.all (·.oneCell') = true)
    (h : wpList P ops Q rest ((a.put (some d) (.pointer (some ⟨g, 0, none⟩))).put (some e) (.pointer (some ⟨g', 0, none⟩))) ((w.alloc (.cells cs ty)).alloc (.cells ds tz))) : wpList P ops Q (o1 :: o2 :: o3 :: o4 :: rest) a w := by
  have ew : ((w.alloc (.cells z ty)).alloc (.cells z' tz)).setRow g cs = (w.alloc (.cells cs ty)).alloc (.cells z' tz) := by
    rw [setRow_alloc_old _ _ _ _ (by rw [hg]; simp), hg, World.setRow_alloc_new]
  refine wpList_alloc_row h1 ty ho1 z hz g hg ?_
  rw [hd1]
  refine wpList_alloc_row h2 tz ho2 z' hz' g' (by rw [hg']; simp) ?_
  rw [hd2]
  refine wpList_put_arr h3 ty _ _ ho3 hd3 g ty z cs hp hx (Row.alloc (Row.new' _ _ hg) _) hs hzs hone ?_
  rw [ew]
  refine wpList_put_arr h4 tz _ _ ho4 hd4 g' tz z' ds hq hy (Row.new' _ _ (by rw [hg']; simp)) hs' hzs' hone' ?_
  have e : g' = (w.alloc (.cells cs ty)).heap.size := by rw [hg']; simp
  have ew2 : ((w.alloc (.cells cs ty)).alloc (.cells z' tz)).setRow g' ds = (w.alloc (.cells cs ty)).alloc (.cells ds tz) := by
    rw [e, World.setRow_alloc_new]
  rw [ew2]
  exact h

theorem loadVar_row (w : World) (g : Nat) (t ty : TypeId) (cs : Array Value) {n : Nat} {e : TypeId} (hr : Row w g t cs) (hu : P.underlying ty = some (.array n e)) (hs : (P.info? ty).map (·.size) = some cs.size) :
    (loadVar ty ⟨g, 0, none⟩).run P w = .ok (.agg cs) w :=
  run_loadVar_row w g t ty cs (0, 0) _ hr hu rfl hs

/-- the end of a function whose two results are arrays that lie in memory -/
theorem ret_arr2 {fn : Func} {R : Ending → World → Prop} {p q : Tmp} {ty tz : TypeId} (h : fn.results = #[.cell p ty, .cell q tz]) (g g' : Nat) (t t' : TypeId) (cs cs' : Array Value) {n n' : Nat} {e e' : TypeId} (hu : P.underlying ty = some (.array n e)) (hs : (P.info? ty).map (·.size) = some cs.size)
    (hu' : P.underlying tz = some (.array n' e')) (hs' : (P.info? tz).map (·.size) = some cs'.size)
    (hr : Row w g t cs) (hr' : Row w g' t' cs') (hp : a.tmps.getD p undef = .pointer (some ⟨g, 0, none⟩)) (hq : a.tmps.getD q undef = .pointer (some ⟨g', 0, none⟩)) (hd : a.defers = []) (hR : R (.returned (.tuple #[.agg cs, .agg cs'])) w) : bodyPost P fn R .ret a w := by
  refine bodyPost_ret (v := .tuple #[.agg cs, .agg cs']) ?_ hd hR
  have hp' : a.tmps[p]?.getD undef = .pointer (some ⟨g, 0, none⟩) := by simpa using hp
  have hq' : a.tmps[q]?.getD undef = .pointer (some ⟨g', 0, none⟩) := by simpa using hq
  simp [results, h, hp', hq', asAddr, loadVar_row w g t ty cs hr hu hs, loadVar_row w g' t' tz cs' hr' hu' hs']
end
end Go.Fen
