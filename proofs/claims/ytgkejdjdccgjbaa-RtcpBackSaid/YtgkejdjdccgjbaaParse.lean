/- rtcp's Parse, of nothing, and of one message. Conditions: no more than 1500 bytes; no padding; the message is one that is read. -/
import Derived.Test.YtgkejdjdccgjbaaReadO
namespace Go.Proofs.Ytgkejdjdccgjbaa
open Go Go.RowKit
set_option maxHeartbeats 400000

set_option maxRecDepth 100000 in
set_option maxHeartbeats 2000000 in
theorem parse_nil (w : World) : Calls Try.prog 14 #[.slice none 0 0] w fun e w' => e = .returned (.tuple #[.slice none 0 0, .int .i64 10]) ∧ Upd [] w w' := by
  have HN := Lib.hid (cut_new (w := w) (lo := 0) (r := ⟨none, 0, []⟩) RowIn.nil (by simp))
  unfold encR at HN
  dsimp only [List.length_nil] at HN
  go_enter Try.func14, Try.ntmps14
  go_wp2_with fail
  refine HN.out.mono ?_
  rintro e w1 ⟨c, r, rfl, hx, hcut, hc0, _, hu⟩
  have HC := Lib.hid hcut
  have HU := Lib.hid hu
  have HX := Lib.hid hx
  have HC0 := Lib.hid hc0
  clear hx hcut hc0 hu HN
  go_wp2
  go_loopg [5] 1 (fun gk x5 wr => x5 = .slice none 0 0 ∧ wr = w1)
  case atStart => exact ⟨rfl, rfl⟩
  case round =>
    obtain ⟨rfl, rfl⟩ := hrel
    have HL := Lib.hid (left_any HC.out)
    rw [HX.out] at HL
    dsimp only [List.length_nil] at HL
    have HB := Lib.hid (bytes_short HC.out 4 (by rw [HX.out]; decide))
    go_wp2_with fail
    refine HL.out.mono ?_
    rintro e w2 ⟨rfl, rfl⟩
    go_wp2_with fail
    refine HB.out.mono ?_
    rintro e w3 ⟨rfl, h3, hu3⟩
    have HE := Lib.hid (err_any h3)
    have HU3 := Lib.hid (HU.out.trans hu3 (fun s hs => .inr (by rw [List.mem_singleton] at hs; subst hs; exact HC0.out)))
    clear h3 hu3
    go_wp2_with fail
    refine HE.out.mono ?_
    rintro e w4 ⟨rfl, rfl⟩
    go_wp2
    exact bodyPost_res (v := .tuple #[.slice none 0 0, .int .i64 10]) (by simp [results, Try.results14, go_sem]) rfl ⟨rfl, HU3.out⟩
end Go.Proofs.Ytgkejdjdccgjbaa
