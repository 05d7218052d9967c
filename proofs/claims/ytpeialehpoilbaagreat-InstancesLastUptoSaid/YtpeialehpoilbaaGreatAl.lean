/- A part of the proof of InstancesLastUptoSaid: see the last text. -/
import Derived.Test.YtpeialehpoilbaaGreatRows
import Derived.KernelRfl
set_option linter.all false
noncomputable section
set_option maxRecDepth 100000
open Bool renaming false->G,true->Y
open Go renaming Value->E
open List renaming length->I
open Option renaming none->U,some->O
open Go.Proofs.Tryz
variable{b:Bool}
namespace Go.Proofs.YtpeialehpoilbaaGreat
section
open Go Go.Proofs
abbrev iP:OpenClaim:=Rows.instancesLastUptoRow
abbrev A4:ChangeSpec:=(Rows.OpenSpec.upto Rows.instancesLastSpec).bare
def gn{c:Bool}(d:b=Y)(e:c=Y):(b&&c)=Y:=by rw[d,e];rfl
def jf1:(iP.wf (OpenSpec.ofChange A4))=Y:=by kernel_rfl
def jf2:(laidOutB prog)=Y:=by kernel_rfl
def jf3:(mapsRowed prog)=Y:=by kernel_rfl
def jf4:(f3.params.all (prog.readableRec ·))=Y:=by kernel_rfl
def jf5:(namedTie prog iP.named A4.vars)=Y:=by kernel_rfl
def jf6:((iP.stops==[]))=Y:=by kernel_rfl
def jf7:((prog.stops==[]))=Y:=by kernel_rfl
def jf8:((iP.knobs==[]))=Y:=by kernel_rfl
def jf9:((prog.stopKnobs==[]))=Y:=by kernel_rfl
def aw8:((iP.inPlace==prog.inPlace 3))=Y:=by kernel_rfl
def aw9:((iP.unfollowed==prog.unfollowed 3))=Y:=by kernel_rfl
def axa:((iP.recurses==prog.recurses 3))=Y:=by kernel_rfl
def axb:((iP.named==prog.varsNamed 3))=Y:=by kernel_rfl
def axc:((iP.maps==(f3.params.toList++A4.plain.varTypes prog).any (prog.mapsRec ·)))=Y:=by kernel_rfl
def axd:((iP.ifaces==(f3.params.toList++A4.plain.varTypes prog).any (prog.ifacesRec ·)))=Y:=by kernel_rfl
def axe:((iP.mapsOut==prog.mapsAmong f3.resultTypes.toList))=Y:=by kernel_rfl
def axf:((iP.loops==(f3.params.toList++A4.plain.varTypes prog).any (prog.loopsFrom ·)))=Y:=by kernel_rfl
def axg:((iP.wideKeys==(f3.params.toList++A4.plain.varTypes prog++f3.resultTypes.toList).any (prog.wideKeysFrom ·)))=Y:=by kernel_rfl
def axh:(A4.vars.all (prog.varReadable ·))=Y:=by kernel_rfl
def axi:(f3.resultTypes.all (λt=>prog.readableRec t&&decide (t<prog.types.size)))=Y:=by kernel_rfl
def axj:((iP.ifacesOut==f3.resultTypes.toList.any (prog.ifacesRec ·)))=Y:=by kernel_rfl
def axk:((iP.loopsOut==f3.resultTypes.toList.any (prog.loopsFrom ·)))=Y:=by kernel_rfl
def axl:((iP.plainKeys==prog.plainKeys))=Y:=by kernel_rfl
def axm:(iP.shortTexts.isNone)=Y:=by kernel_rfl
def axn:(prog.stopsHeard)=Y:=by kernel_rfl
def axo:(prog.mayEnter)=Y:=by kernel_rfl
def axp:((iP.lifted==prog.liftsFinal))=Y:=by kernel_rfl
def axq:((prog.make==O iP.make))=Y:=by kernel_rfl
def axr:((iP.kinds==(if iP.domain.isEmpty then[]else f3.params.toList.map λt=>match prog.underlying t with|some (.int k)=>O k|_=>U)))=Y:=by kernel_rfl
def axs:((iP.pinned==iP.pinnedBy))=Y:=by kernel_rfl
def axt:((iP.veiled==(f3.params.toList++A4.plain.varTypes prog++f3.resultTypes.toList).any (prog.veiledRec ·)))=Y:=by kernel_rfl
def axu:(iP.veiledFits prog f3.params.toList (f3.params.toList++A4.plain.varTypes prog++f3.resultTypes.toList))=Y:=by kernel_rfl
end
end Go.Proofs.YtpeialehpoilbaaGreat
