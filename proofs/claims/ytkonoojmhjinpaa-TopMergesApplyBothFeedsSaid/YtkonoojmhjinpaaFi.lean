/- Contracts: lineage's Fits. -/
import Derived.Test.YtkonoojmhjinpaaAq
set_option linter.all false
namespace Go.Proofs.Ytkonoojmhjinpaa
open Go.RowKit Go.Fen
set_option linter.unusedVariables false
set_option maxHeartbeats 4000000

theorem lfits_any (v : Value) (N : Int) (L : List Ln) (a : Option Addr) (E : List Ev) (n c : Nat) (w : World) (hT : Tb w v N L) (hR : Rising N L) (h0 : 0 ≤ N) (h1 : N ≤ 1000000) (hl : L.length ≤ 1000) (hn : n = E.length) (hE : Evs w a E) (hF : FeedOk E) (hL : n ≤ 3000) :
    Calls Try.prog 10 #[v, .slice a n c] w fun e w' => e = .returned (.bool (!(applyR N L E).2.1)) ∧ Below w.heap.size w w' := by
  have HC := Lib.hid (fun w' (hb : Below w.heap.size w w') => lapply_any v N L a E n c w' (hT.bel hb) hR h0 h1 hl hn (hE.bel hb) hF hL)
  obtain ⟨a1, c1, rfl, hc1, hL1⟩ := hT
  obtain ⟨n1, hn1⟩ : ∃ n, n = L.length := ⟨_, rfl⟩
  rw [← hn1] at HC ⊢
  obtain ⟨g, eg⟩ : ∃ g, g = w.heap.size := ⟨_, rfl⟩
  obtain ⟨W0, hW0⟩ : ∃ W, W = w.alloc (.cells #[.int .i64 N, .slice a1 n1 c1] 38) := ⟨_, rfl⟩
  have b0 : Below w.heap.size w W0 := by rw [hW0]; exact (Below.refl _ _).alloc (Nat.le_refl _) _
  have R0 : Row W0 g 38 #[.int .i64 N, .slice a1 n1 c1] := by rw [hW0, eg]; exact Row.new w 38 _
  have k00 : W0.cell? ⟨g, 0, none⟩ = some (.int .i64 N) := R0.cell 0
  have k01 : W0.cell? ⟨g, 1, none⟩ = some (.slice a1 n1 c1) := R0.cell 1
  have HW0 := Lib.hid hW0
  have EG := Lib.hid eg
  have HB := Lib.hid b0
  have HCA := Lib.hid (HC.out W0 b0)
  obtain ⟨r, hr⟩ : ∃ r, r = applyR N L E := ⟨_, rfl⟩
  rw [← hr] at HCA ⊢
  clear hW0 eg b0 R0 hL1 hn1 hc1 hR h0 h1 hl hn hE hF hL hr
  go_enter Try.func10, Try.ntmps10
  go_wp2_with (first | ((with_reducible show wpList _ _ _ (Oper.mk _ (Op.box _ _) _ _ _ _ :: _) _ _); (refine wpList_box_row rfl 38 (.tmp 0) rfl _ rfl g EG.out ?_; refine wpList_atE HW0.out ?_)))
  refine HCA.out.mono ?_
  rintro e w2 ⟨hR, hb⟩
  have HB2 := Lib.hid (bel_tr HB.out hb)
  clear hb k00 k01
  obtain ⟨gx, hgx⟩ : ∃ x, x = w2.heap.size := ⟨_, rfl⟩
  rcases hR with ⟨h1, rfl⟩ | ⟨h1, v', rfl, a', c', rfl, _, _⟩
  · obtain ⟨W5, hW5⟩ : ∃ W, W = w2.alloc (.cells #[.int .i64 0, .slice none 0 0] 38) := ⟨_, rfl⟩
    have HB5 := Lib.hid (bel_tr HB2.out (show Below w2.heap.size w2 W5 by rw [hW5]; exact (Below.refl _ _).alloc (Nat.le_refl _) _))
    have HX := Lib.hid hgx
    have HW5 := Lib.hid hW5
    have HR1 := Lib.hid h1
    clear hgx hW5 h1
    go_wp2_with (first | ((with_reducible show wpList _ _ _ (Oper.mk _ (Op.alloc _) _ _ _ _ :: _) _ _); (refine wpList_new_row rfl rfl 38 5 (.tmp 11) rfl rfl rfl rfl gx HX.out #[.int .i64 0, .slice none 0 0] rfl rfl _ Try.z38 Try.n38 rfl (by simp [Value.oneCell']) ?_; refine wpList_atE HW5.out ?_)))
    first | go_ret | ((try simp only [Exit.inBlock, Exit.then]); go_ret)
    exact ⟨by rw [HR1.out]; rfl, HB5.out⟩
  · obtain ⟨n', hn'⟩ : ∃ n, n = r.2.2.length := ⟨_, rfl⟩
    rw [← hn']
    clear hn'
    obtain ⟨N', hN'⟩ : ∃ n, n = r.1 := ⟨_, rfl⟩
    rw [← hN']
    clear hN'
    obtain ⟨W5, hW5⟩ : ∃ W, W = w2.alloc (.cells #[.int .i64 N', .slice a' n' c'] 38) := ⟨_, rfl⟩
    have HB5 := Lib.hid (bel_tr HB2.out (show Below w2.heap.size w2 W5 by rw [hW5]; exact (Below.refl _ _).alloc (Nat.le_refl _) _))
    have HX := Lib.hid hgx
    have HW5 := Lib.hid hW5
    have HR1 := Lib.hid h1
    clear hgx hW5 h1
    go_wp2_with (first | ((with_reducible show wpList _ _ _ (Oper.mk _ (Op.alloc _) _ _ _ _ :: _) _ _); (refine wpList_new_row rfl rfl 38 5 (.tmp 11) rfl rfl rfl rfl gx HX.out #[.int .i64 N', .slice a' n' c'] rfl rfl _ Try.z38 Try.n38 rfl (by simp [Value.oneCell']) ?_; refine wpList_atE HW5.out ?_)))
    first | go_ret | ((try simp only [Exit.inBlock, Exit.then]); go_ret)
    exact ⟨by rw [HR1.out]; rfl, HB5.out⟩
end Go.Proofs.Ytkonoojmhjinpaa
