/- The statement InstancesLastUptoSaid holds of the program: for every input whose bulk is at most 2^20. Conditions: none but those of the statement. -/
import Derived.Test.YtpeialehpoilbaaGreatAl
import Derived.OpenShut
import Derived.JoinedCond
import Derived.Test.YtpeialehpoilbaaGreatAk
set_option linter.all false
noncomputable section
set_option maxRecDepth 100000
open Bool renaming false->G,true->Y
open Go renaming Value->E,joinedFacts->sd
open List renaming length->I
open Option renaming none->U,some->O
open Go.Am.ai renaming cells->K
open Go.DataW renaming nil->sy
open Go.Value renaming slice->zL
open Go.Proofs.Tryz
namespace Go.Proofs.YtpeialehpoilbaaGreat
section
open Go Go.Proofs
def avp:sd Tryz.pinned.checked.prog 3 f3 (Rows.OpenSpec.upto Rows.instancesLastSpec).bare Rows.instancesLastUptoRow=Y:=by show sd prog 3 f3 A4 iP=Y;unfold sd;exact(gn (gn (gn (gn (gn (gn (gn (gn (gn (gn (gn (gn (gn (gn (gn (gn (gn (gn (gn (gn (gn (gn (gn (gn (gn (gn (gn (gn (gn (gn (gn jf1 jf2) jf3) jf4) jf5) jf6) jf7) jf8) jf9) aw8) aw9) axa) axb) axc) axd) axe) axf) axg) axh) axi) axj) axk) axl) axm) axn) axo) axp) axq) axr) axs) axt) axu)
end
section
open Go Go.Am Go.Proofs
open Go.ChangeShapes Go.WideShapes Go.ChangeAt Go.RowKit
def aq7(b:Os)(started:b.Started)(H:Type)(enc:TypeId×E->H)(F:Stop.Interp):
 ReturnsInHanded {} Tryz.checked b 3 .any ((Rows.OpenSpec.upto Rows.instancesLastSpec).pre6 enc prog f3 Rows.instancesLastUptoRow.domain G) (((Rows.OpenSpec.upto Rows.instancesLastSpec).at F).post enc prog f3 G Y G G):=by
 refine returnsInHanded_of_cond (C:=Tryz.checked) (s:=Rows.OpenSpec.upto Rows.instancesLastSpec) (k:=Rows.uptoSmall) rfl own started (by kernel_rfl) Tryz.func3
  (OpenSpec.witness (enc:=enc) (C:=Tryz.checked) (s:=Rows.OpenSpec.upto Rows.instancesLastSpec) (k:=Rows.uptoSmall) rfl G ⟨#[],#[.agg #[zL U 0 0,zL U 0 0,zL U 0 0,zL U 0 0,zL U 0 0,zL U 0 0,zL U 0 0],.agg #[.int .i64 0,.int .i64 0,.string ⟨#[]⟩,zL U 0 0,zL U 0 0]],[]⟩ 8 (by kernel_rfl) (by kernel_rfl) (by kernel_rfl)
    (x:=([.agg [sy,sy,sy,sy,sy,sy,sy],.agg [.lit (.int .i64 0),.lit (.int .i64 0),.lit (.string []),sy,sy]],[],[])) (by kernel_rfl) rfl (by kernel_rfl)) ?_
 intro W base args c d before a e _ f _;exact alR H enc W base args c d before a e f
theorem over3:Rows.instancesLastUptoRow.holds Tryz.pinned (Rows.OpenSpec.upto Rows.instancesLastSpec):=
 OpenClaim.holds_of_cond 3 f3 rfl rfl rfl rfl rfl rfl rfl ⟨rfl,rfl,rfl,rfl,rfl⟩ rfl rfl rfl rfl rfl (by kernel_rfl) Tryz.func3 avp
  (of_decide_eq_true (by kernel_rfl)) (by unfold Func.isWrapper;first|(rw[if_pos (by decide+kernel)];kernel_rfl)|(rw[if_neg (by decide+kernel)];exact⟨rfl,rfl⟩))
  (λb started H a _ F=>aq7 b started H a F)
theorem instancesLastUpto:Rows.InstancesLastUptoSaid:=over3
end
end Go.Proofs.YtpeialehpoilbaaGreat
