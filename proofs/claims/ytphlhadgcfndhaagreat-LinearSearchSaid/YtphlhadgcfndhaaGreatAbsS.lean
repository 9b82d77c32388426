/- What an evaluation unfolds. -/
import Derived.Test.YtphlhadgcfndhaaGreatTy
namespace Go.Proofs.YtphlhadgcfndhaaGreat.Abs
open Go Go.RowKit
attribute [simp] insS sortS rnI newR newM newG obsG looksA dropO PN nilCmp nilIs planBin0 evOps evOp evU evUs UE.of UE.τ UE.σ UE.wids Plan.ids okD wantedA planOp opval constV Plan.val Plan.run looks putD putT putA drop Eff.aval Eff.sig entry look planBin scBin TI.isBool eqAgg eqFs planGrow planAppendS planCap shV shVs shS flatS plainO isU8 bytesOf planUn scUn planConv planPick planLoad readA TI.agg planStore cellsOf planNew TI.zeros Value.cells planBuild partsF fillC planBuildS partsS partsN frozenC planNil planSlice numOf planFieldAddr fitsF planField planIndexAddr planExtract avs isCallOp frozenV rdV rdC hiS loS plainV plainC planMakeFunc scs capsOf planMakeSlice planAppend planAppendM srcEs planAppendIn planLen planMin planMax planClear planCopy cutS all0_t all1_t Value.oneCell' norm normL keepT mapS rnV rnC rnS rnI rnO rhoOf refOf flatRest idC idCs idV idVs resA resAll resOne resL resAllL endSt freeze frzV frzC mapAt frzO LIM
@[simp] theorem flatO_nil (k : Nat) : flatO ⟨k, []⟩ = true := rfl
@[simp] theorem flatO_one (k : Nat) (cs : List Cell) : flatO ⟨k, [cs]⟩ = cs.all frozenC := by simp [flatO]
@[simp] theorem flatO_app (k : Nat) (a b : List (List Cell)) : flatO ⟨k, a ++ b⟩ = (flatO ⟨k, a⟩ && flatO ⟨k, b⟩) := by simp [flatO]
@[simp] theorem take_map_len {α β : Type} (f : α → β) (l : List α) : (l.map f).take l.length = l.map f := by
  have := List.take_length (l := l.map f)
  rwa [List.length_map] at this
@[simp] theorem wrap_0 : IntKind.i64.wrap 0 = 0 := by decide
theorem wrap_nat (n : Nat) (h : n < 9223372036854775808) : IntKind.i64.wrap n = n := by
  rw [IntKind.wrap_i64]; omega
theorem wrap_s (j : Nat) (h : j < 9223372036854775807) : IntKind.i64.wrap ((j : Int) + 1) = (j : Int) + 1 := by
  rw [IntKind.wrap_i64]; omega
@[simp] theorem pos_s (n : Nat) : decide ((n : Int) + 1 > 0) = true := by simp
@[simp] theorem ne_s (n : Nat) : ((n : Int) + 1 == 0) = false := by simp; omega
@[simp] theorem s_pos (n : Nat) : (0 : Int) < (n : Int) + 1 := by omega
@[simp] theorem s_ne (n : Nat) : ¬ (n : Int) + 1 = 0 := by omega
@[simp] theorem wrap_1 : IntKind.i64.wrap 1 = 1 := by decide
theorem mixed : Tryz.prog.follows .mixedOrders = true := by kernel_rfl
end Go.Proofs.YtphlhadgcfndhaaGreat.Abs
