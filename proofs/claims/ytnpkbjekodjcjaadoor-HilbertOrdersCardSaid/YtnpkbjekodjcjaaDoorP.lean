/- The stable sort of a short slice. -/
import Derived.Test.YtnpkbjekodjcjaaDoorO
set_option linter.all false
namespace Go.Proofs.YtnpkbjekodjcjaaDoor
open Go.RowKit Go.Fen Hil
set_option linter.unusedVariables false
set_option maxHeartbeats 4000000

/-- what the sort does to the row at gd -/
def Sorts (w : World) (gd t n : Nat) (D K : List Nat) (e : Ending) (w' : World) : Prop :=
  e = .returned (.tuple #[]) ∧ ∃ D', Row w' gd t (nc D') ∧ Mix 0 n D D' ∧ Srt K D' 0 n ∧ w.grownBy w' (some gd)

theorem stable_small (gd t n c bk gk m cm : Nat) (D K : List Nat) (w : World) (hR : Row w gd t (nc D)) (hK : KeysM w bk gk m cm K) (hn : n = D.length) (hN : n ≤ 19) (hm : m ≤ 1000000) (hbk : bk ≠ gd) (hgk : gk ≠ gd)
    (hD : ∀ i, i < D.length → at' D i < m) (hI : ∀ p q, p < q → q < n → at' D p < at' D q) :
    Calls Tryd.prog 45 #[.slice (some ⟨gd, 0, none⟩) n c, .int .i64 n, .func (.func 34) #[] #[.pointer (some ⟨bk, 0, none⟩)]] w (Sorts w gd t n D K) := by
  have INS := Lib.hid (ins_any gd t n c 0 n bk gk m cm D K w hR hK (by omega) hn (by omega) (by omega) hm hbk hgk hD (fun p q _ => hI p q))
  unfold Sorts
  clear hR hK hD hI hn
  go_enter Tryd.func45, Tryd.ntmps45
  go_wp2_with fail
  go_loopw [7, 8] (fun av bv wr => av = .int .i64 0 ∧ bv = .int .i64 20 ∧ wr = w) (fun _ _ _ => 0)
  case atStart => exact ⟨rfl, rfl, rfl⟩
  case round =>
    obtain ⟨rfl, rfl, rfl⟩ := hrel
    have h20 : ¬ (20 : Int) ≤ (n : Int) := by omega
    have h20' : ¬ (20 : Int) < (n : Int) := by omega
    go_wp2_with fail
    refine INS.out.mono ?_
    rintro e w1 ⟨rfl, D', h1, h2, h3, h4⟩
    have H := Lib.hid (⟨D', h1, h2, h3, h4⟩ : ∃ D', Row w1 gd t (nc D') ∧ Mix 0 n D D' ∧ Srt K D' 0 n ∧ _)
    clear h1 h2 h3 h4
    go_wp2_with fail
    go_loopw [6, 7, 8, 9] (fun sv _ _ _ wr => sv = .int .i64 20 ∧ wr = w1) (fun _ _ _ _ _ => 0)
    case atStart => exact ⟨rfl, rfl⟩
    case round =>
      obtain ⟨rfl, rfl⟩ := hrel
      go_wp2_with fail
      go_end0
      exact ⟨rfl, H.out⟩

theorem sort_small (gd t n c bk gk m cm : Nat) (D K : List Nat) (w : World) (hR : Row w gd t (nc D)) (hK : KeysM w bk gk m cm K) (hn : n = D.length) (hN : n ≤ 19) (hm : m ≤ 1000000) (hbk : bk ≠ gd) (hgk : gk ≠ gd)
    (hD : ∀ i, i < D.length → at' D i < m) (hI : ∀ p q, p < q → q < n → at' D p < at' D q) :
    Calls Tryd.prog 33 #[.slice (some ⟨gd, 0, none⟩) n c, .func (.func 34) #[] #[.pointer (some ⟨bk, 0, none⟩)]] w (Sorts w gd t n D K) := by
  have ST := Lib.hid (stable_small gd t n c bk gk m cm D K w hR hK hn hN hm hbk hgk hD hI)
  clear hR hK hD hI hn
  go_enter Tryd.func33, Tryd.ntmps33
  go_wp2_with fail
  refine ST.out.mono ?_
  rintro e w1 ⟨rfl, h⟩
  have H := Lib.hid h
  clear h
  go_wp2_with fail
  go_end0
  exact ⟨rfl, H.out⟩
end Go.Proofs.YtnpkbjekodjcjaaDoor
