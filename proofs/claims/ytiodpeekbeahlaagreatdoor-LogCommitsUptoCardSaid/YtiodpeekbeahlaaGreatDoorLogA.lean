/- The log: batches of changes; a log that isn't there. -/
import Derived.Test.YtiodpeekbeahlaaGreatDoorSlabC
namespace Go.Proofs.YtiodpeekbeahlaaGreatDoor.Abs
open Go
set_option linter.unusedVariables false
attribute [-simp] List.getD_eq_getElem?_getD

abbrev Ch := List (Int × Blk)
abbrev BatchD := List Int × List Int

def fillS (b : Int) : Blk := List.replicate 128 (UInt8.ofNat b.toNat)

theorem fillS_len (b : Int) : (fillS b).length = 128 := by unfold fillS; simp

theorem set_repl (a b : Int) (i : Nat) (h : i < 128) : (List.replicate i b ++ List.replicate (128 - i) a).set i b = List.replicate (i + 1) b ++ List.replicate (128 - (i + 1)) a := by
  have e : 128 - i = (128 - (i + 1)) + 1 := by omega
  rw [List.set_append_right _ _ (by simp), e, List.replicate_succ, List.length_replicate, Nat.sub_self, List.set_cons_zero, List.replicate_succ', List.append_assoc, List.singleton_append]

theorem fill_is (b : Int) : wainwrightlaw11_fill b = some (fillS b) := by
  have := loop_run (f := wainwrightlaw11_fill.l1) (fun i => (List.replicate i b ++ List.replicate (128 - i) 0, b, (i : Int))) (n := 128) (r := List.replicate 128 b) (fun i hi => by
    unfold wainwrightlaw11_fill.l1
    simp only
    have hl : ((List.replicate i b ++ List.replicate (128 - i) (0 : Int)).length : Int) = 128 := by simp; omega
    rw [hl, if_pos (by simp; omega), if_pos (by omega), wrap_succ (by omega), Int.toNat_natCast, set_repl 0 b i hi]) (by
    unfold wainwrightlaw11_fill.l1
    simp)
  unfold wainwrightlaw11_fill
  rw [if_pos (by decide)]
  have e0 : (List.replicate 128 (0 : Int), b, (0 : Int)) = (List.replicate 0 b ++ List.replicate (128 - 0) 0, b, ((0 : Nat) : Int)) := by simp
  rw [e0, this, Option.bind_some, List.map_replicate]
  rfl

def chAt (b : BatchD) (i : Nat) : Int × Blk := (b.1.getD i 0, fillS (if i < b.2.length then b.2.getD i 0 else IntKind.u8.wrap (i : Int)))
def chS (b : BatchD) : Ch := (List.range b.1.length).map (chAt b)

theorem chS_len (b : BatchD) : (chS b).length = b.1.length := by unfold chS; simp

theorem changes_is (b : BatchD) (h : b.1.length ≤ 2000000) : wainwrightlaw11_Batch_changes b = some (chS b) := by
  have := loop_run (f := wainwrightlaw11_Batch_changes.l1) (fun i => (((b.1, b.2), (List.range i).map (chAt b)), (i : Int))) (n := b.1.length) (r := chS b) (fun i hi => by
    unfold wainwrightlaw11_Batch_changes.l1
    simp only
    rw [if_pos (by simpa using hi)]
    have hr : roomOk (((List.range i).map (chAt b)).length + ([(b.1.getD i 0, fillS (if i < b.2.length then b.2.getD i 0 else IntKind.u8.wrap (i : Int)))] : List (Int × List UInt8)).length) 24 := room (by decide) (by simp; omega)
    by_cases h2 : i < b.2.length
    · rw [if_pos (by simpa using h2), if_pos (by omega), Option.bind_some]
      simp only
      rw [if_pos (by omega), fill_is, Option.bind_some, getD_nat, getD_nat]
      rw [if_pos h2] at hr
      rw [if_pos hr, wrap_succ (by omega), List.range_succ, List.map_append]
      simp only [List.map_cons, List.map_nil, chAt, if_pos h2]
    · rw [if_neg (by simpa using h2), Option.bind_some]
      simp only
      rw [if_pos (by omega), fill_is, Option.bind_some, getD_nat]
      rw [if_neg h2] at hr
      rw [if_pos hr, wrap_succ (by omega), List.range_succ, List.map_append]
      simp only [List.map_cons, List.map_nil, chAt, if_neg h2]) (by
    unfold wainwrightlaw11_Batch_changes.l1
    simp only
    rw [if_neg (by simp)]
    rfl)
  unfold wainwrightlaw11_Batch_changes
  have e0 : (((b.1, b.2), ([] : Ch)), (0 : Int)) = (((b.1, b.2), (List.range 0).map (chAt b)), ((0 : Nat) : Int)) := rfl
  rw [e0, this]
  rfl

theorem wainwrightlaw11_LogNil_row (x0 : Int) (x1 : BatchD) (w0 : wfD I x0) (w1 : wfD (.st (.pair (.sl I) (.sl (.int .u8)))) x1)
    (hb : bulk I x0 + bulk (.st (.pair (.sl I) (.sl (.int .u8)))) x1 ≤ 1048576) : wainwrightlaw11_LogNil (x0, x1) = some true := by
  have hl : x1.1.length ≤ 2000000 := by
    have h1 := bulk_ints x1.1
    have h2 : bulk (.st (.pair (.sl I) (.sl (.int .u8)))) x1 = bulk (.sl I) x1.1 + bulk (.sl (.int .u8)) x1.2 + 1 := rfl
    change x1.1.length < bulk (.sl I) x1.1 at h1
    omega
  unfold wainwrightlaw11_LogNil
  simp only
  rw [lives_is, Option.bind_some, if_neg (by simp)]
  unfold log_Open_1 log_Log_Read log_Log_Size log_Log_Commits_1
  rw [Option.bind_some, if_pos (by rfl), Option.bind_some, if_pos (by rfl), changes_is _ hl, Option.bind_some]
  unfold log_Log_Commit_1x log_Log_may_1
  simp only
  rw [Option.bind_some, if_neg (by decide), Option.bind_some, if_pos (by rfl), Option.bind_some, if_pos (by rfl), Option.bind_some]
  rfl
end Go.Proofs.YtiodpeekbeahlaaGreatDoor.Abs
