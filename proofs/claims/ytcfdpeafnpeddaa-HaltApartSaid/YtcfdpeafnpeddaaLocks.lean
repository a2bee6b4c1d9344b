/- The numbers of the lock's functions and types in this program, and that it holds them. -/
import Derived.Test.YtcfdpeafnpeddaaRows
import Derived.Conc.MuLone
import Derived.Conc.MuData
import Derived.KernelRfl
namespace Go.Proofs.Ytcfdpeafnpeddaa
abbrev muLink : Go.Conc.Locks.MuLink := { lock := 23, unlock := 24, ilock := 31, iunlock := 32, lockSlow := 40, unlockSlow := 43, disable := 36, enable := 38, acquire := 39, relMerge := 41, cas32 := 37, add32 := 42, tMutex := 57, tIMutex := 55, tPMutex := 70, tPIMutex := 73, tPI32 := 75, tUP := 77, tNoCopy := 52, tU32 := 53 }
theorem muLib : Go.Conc.Locks.MuLib Try.prog muLink :=
  ⟨Try.func23, Try.func24, Try.func31, Try.func32, Try.func36, Try.func38, Try.func39, Try.func41, Try.func37, Try.func42, Try.underlying55, Try.runUnderlying55, Try.sizeOf55, Try.isAgg55, Try.zeroValue55, Try.underlying57, Try.runUnderlying57, Try.sizeOf57, Try.isAgg57, Try.zeroValue57, Try.underlying70, Try.runUnderlying70, Try.sizeOf70, Try.isAgg70, Try.zeroValue70, Try.underlying73, Try.runUnderlying73, Try.sizeOf73, Try.isAgg73, Try.zeroValue73, Try.underlying75, Try.runUnderlying75, Try.sizeOf75, Try.isAgg75, Try.zeroValue75, Try.underlying77, Try.runUnderlying77, Try.sizeOf77, Try.isAgg77, Try.zeroValue77, Try.underlying52, Try.runUnderlying52, Try.sizeOf52, Try.isAgg52, Try.zeroValue52, Try.underlying21, Try.runUnderlying21, Try.sizeOf21, Try.isAgg21, Try.zeroValue21, (by kernel_rfl)⟩
end Go.Proofs.Ytcfdpeafnpeddaa
