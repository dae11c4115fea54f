/- Texts of so many bytes: the law. -/
import Derived.Test.YtldmeogadmgkiaaDoorTexts
import Derived.Test.YtldmeogadmgkiaaDoorFnsE
import Derived.Test.YtldmeogadmgkiaaDoorAbsOpen
namespace Go.Proofs.YtldmeogadmgkiaaDoor.Abs
open Go
set_option linter.unusedVariables false

theorem lives_is : wainwrightlaw01_lives () = some true := wainwrightlaw01_lives.le () true (by kernel_rfl)

theorem wainwrightlaw01_MouldTexts_row (x0 : List UInt8) (x1 : Int) (x2 : List UInt8) (w0 : wfD .str x0) (w1 : wfD (.int .i64) x1) (w2 : wfD .str x2)
    (hb : bulk .str x0 + bulk (.int .i64) x1 + bulk .str x2 ≤ 1048576) : wainwrightlaw01_MouldTexts (x0, x1, x2) = some true := by
  have h0 : x0.length ≤ 1048576 := by simp only [bulk] at hb; omega
  have h2 : x2.length ≤ 1048576 := by simp only [bulk] at hb; omega
  have hlen : (textS x0 x1).1.length ≤ 1048576 := by
    unfold textS padS0
    repeat' split
    all_goals simp
    all_goals omega
  unfold wainwrightlaw01_MouldTexts
  simp only
  rw [lives_is, Option.bind_some, if_neg (by simp), text_is, Option.bind_some, refText_is, Option.bind_some, untext_is x2 (by omega), Option.bind_some, refUntext_is x2 (by omega), Option.bind_some, pad_is, Option.bind_some, refPad_is, Option.bind_some, untext_is _ (by omega), Option.bind_some]
  simp only [beq_self_eq_true, if_true]
  by_cases he : (textS x0 x1).2 = 0
  · rw [if_pos (by rw [he]; rfl), untext_text x0 x1 he]
    simp
  · rw [if_neg (by simp [he])]
end Go.Proofs.YtldmeogadmgkiaaDoor.Abs
