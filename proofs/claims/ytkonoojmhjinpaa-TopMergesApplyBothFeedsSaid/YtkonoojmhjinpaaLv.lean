/- Contracts: Valid (the answer true), SameTable (the answer true). -/
import Derived.Test.YtkonoojmhjinpaaTa
import Derived.Test.YtkonoojmhjinpaaK4
set_option linter.all false
namespace Go.Proofs.Ytkonoojmhjinpaa
open Go.RowKit Go.Fen
set_option linter.unusedVariables false
set_option maxHeartbeats 4000000

theorem Rising.lt {N : Int} {L : List Ln} (h : Rising N L) {i j : Nat} {x y : Ln} (hi : L[i]? = some x) (hj : L[j]? = some y) (hij : i < j) : x.n < y.n := by
  obtain ⟨h1, e1⟩ := List.getElem?_eq_some_iff.1 hi
  obtain ⟨h2, e2⟩ := List.getElem?_eq_some_iff.1 hj
  have := List.pairwise_iff_getElem.1 h.2 i j h1 h2 hij
  rw [e1, e2] at this
  exact this
theorem Rising.mem {N : Int} {L : List Ln} (h : Rising N L) {i : Nat} {x : Ln} (hi : L[i]? = some x) : 0 ≤ x.n ∧ x.n < N := h.1 x (List.mem_of_getElem? hi)
set_option maxRecDepth 20000 in
theorem valid_any (v : Value) (N : Int) (L : List Ln) (w : World) (hT : Tb w v N L) (hR : Rising N L) (h0 : 0 ≤ N) (h1 : N ≤ 1000000) (hL : L.length ≤ 1000) : Calls Try.prog 20 #[v] w fun e w' => e = .returned (.bool true) ∧ Below w.heap.size w w' := by
  obtain ⟨a, c, rfl, hcap, hLs⟩ := hT
  obtain ⟨n, hn⟩ : ∃ n, n = L.length := ⟨_, rfl⟩
  rw [← hn] at hL ⊢
  obtain ⟨g, eg⟩ : ∃ g, g = w.heap.size := ⟨_, rfl⟩
  obtain ⟨W0, hW0⟩ : ∃ W, W = w.alloc (.cells #[.int .i64 N, .slice a n c] 38) := ⟨_, rfl⟩
  have z0 : W0.heap.size = g + 1 := by rw [hW0, eg]; simp
  have b0 : Below w.heap.size w W0 := by rw [hW0]; exact (Below.refl _ _).alloc (Nat.le_refl _) _
  have R0 : Row W0 g 38 #[.int .i64 N, .slice a n c] := by rw [hW0, eg]; exact Row.new w 38 _
  have k0 : W0.cell? ⟨g, 0, none⟩ = some (.int .i64 N) := R0.cell 0
  have k1 : W0.cell? ⟨g, 1, none⟩ = some (.slice a n c) := R0.cell 1
  have HLS := Lib.hid (hLs.bel b0)
  have HR0 := Lib.hid R0
  have HW0 := Lib.hid hW0
  have EG := Lib.hid eg
  have Z0 := Lib.hid z0
  have HB := Lib.hid b0
  have HR := Lib.hid hR
  have HN := Lib.hid hn
  clear hW0 eg z0 b0 R0 hLs hn hcap hR
  go_enter Try.func20, Try.ntmps20
  go_wp2_with (first | ((with_reducible show wpList _ _ _ (Oper.mk _ (Op.box _ _) _ _ _ _ :: _) _ _); (refine wpList_box_row rfl 38 (.tmp 0) rfl _ rfl g EG.out ?_; refine wpList_atE HW0.out ?_)))
  clear k0 k1
  go_loopw [23, 3] (fun iv lv wr => ∃ (k : Nat) (last : Int), k ≤ n ∧ iv = .int .i64 k ∧ lv = .int .i64 last ∧ -1 ≤ last ∧ last ≤ 1000000 ∧ (∀ l, L[k]? = some l → last < l.n) ∧ Below W0.heap.size W0 wr) (fun iv _ _ => n - (intOf iv).toNat)
  case atStart => exact ⟨0, -1, by omega, rfl, rfl, by omega, by omega, fun l hl => by have := HR.out.mem hl; omega, Below.refl _ _⟩
  case round =>
    obtain ⟨k, last, hk, rfl, rfl, hl1, hl2, hlast, hb⟩ := hrel
    have R0w := HR0.out.below hb HR0.out.lt
    have k0 : wr.cell? ⟨g, 0, none⟩ = some (.int .i64 N) := R0w.cell 0
    by_cases hkn : k < n
    · have ki : (k : Int) < (n : Int) := by omega
      obtain ⟨gl, ol, rfl, hgl, hc⟩ := HLS.out.1.form (by rw [← HN.out]; omega)
      obtain ⟨l, hl⟩ : ∃ f, L[k]? = some f := ⟨_, List.getElem?_eq_getElem (by rw [← HN.out]; omega)⟩
      have hrg := range_below (hc k l hl) hb hgl
      have c0 : wr.cell? ⟨gl, ol + k * 2, none⟩ = some (.int .i64 l.n) := by have := hrg 0 _ rfl; rw [Nat.add_zero] at this; exact this
      have c1 : wr.cell? ⟨gl, ol + k * 2 + 1, none⟩ = some (rvv l.r) := hrg 1 _ rfl
      have hlt := hlast l hl
      have hm := HR.out.mem hl
      obtain ⟨gx, hgx⟩ : ∃ x, x = wr.heap.size := ⟨_, rfl⟩
      obtain ⟨W5, hW5⟩ : ∃ W, W = wr.alloc (.cells #[.int .i64 l.n, rvv l.r] 45) := ⟨_, rfl⟩
      have b5 : Below wr.heap.size wr W5 := by rw [hW5]; exact (Below.refl _ _).alloc (Nat.le_refl _) _
      have R5 : Row W5 gx 45 #[.int .i64 l.n, rvv l.r] := by rw [hW5]; exact Row.new' 45 _ hgx
      have k5 : W5.cell? ⟨gx, 0, none⟩ = some (.int .i64 l.n) := R5.cell 0
      have k6 : W5.cell? ⟨g, 0, none⟩ = some (.int .i64 N) := (R0w.below b5 R0w.lt).cell 0
      have HX := Lib.hid hgx
      have HW5 := Lib.hid hW5
      have HB5 := Lib.hid (hb.trans (b5.mono hb.size))
      have HNX := Lib.hid (fun l' (hl' : L[k + 1]? = some l') => HR.out.lt hl hl' (Nat.lt_succ_self k))
      have HM := Lib.hid hm
      have d1 : ¬ l.n ≤ last := by omega
      have d2 : ¬ N ≤ l.n := by omega
      have d1' : decide (l.n ≤ last) = false := decide_eq_false d1
      have d2' : decide (N ≤ l.n) = false := decide_eq_false d2
      have HKN := Lib.hid hkn
      clear hgx hW5 b5 R5 R0w hrg hlt hm hl hlast hc hgl hb hkn hk
      go_wp2_with (first | ((with_reducible show wpList _ _ _ (Oper.mk _ (Op.alloc _) _ _ _ _ :: _) _ _); (refine wpList_new_row rfl rfl 45 5 (.tmp 26) rfl rfl rfl rfl gx HX.out #[.int .i64 l.n, rvv l.r] rfl rfl _ Try.z45 Try.n45 rfl (by simp [Value.oneCell', rvv]) ?_; refine wpList_atE HW5.out ?_)))
      go_roundw
      case rel => exact ⟨k + 1, l.n, HKN.out, by go_num, rfl, by have := HM.out; omega, by have := HM.out; omega, HNX.out, HB5.out⟩
      case measure => have := HKN.out; simp [intOf] <;> omega
    · have ki : ¬ (k : Int) < (n : Int) := by omega
      have HBE := Lib.hid (HB.out.trans (hb.mono HB.out.size))
      clear hlast hb R0w
      go_wp2_with fail
      first | go_ret | ((try simp only [Exit.inBlock, Exit.then]); go_ret)
      exact ⟨rfl, HBE.out⟩
end Go.Proofs.Ytkonoojmhjinpaa
