/-
What the row of MillRuns says of the program, computed: no statement of the seat is proved in this part.
-/
import Derived.Test.YtcmijampbjcbgaaGreatDoorMruns8
set_option autoImplicit true
set_option relaxedAutoImplicit true
set_option linter.unusedSimpArgs false
set_option linter.unusedVariables false
set_option maxRecDepth 100000
namespace Go.Proofs.YtcmijampbjcbgaaGreatDoor
open Go Go.Ev Go.RowKit Go.ChangeShapes Go.WideShapes Go.ChangeAt
section
namespace ST
theorem named_MillRuns:Tryz.pinned.checked.prog.funcNamed Rows.millRunsRow.func=some 3:=by kernel_rfl
theorem eH (h1:a=true) (h2:b=true):(a&&b)=true:=by rw[h1,h2]; rfl
theorem SS:(Rows.millRunsRow.wf (OpenSpec.ofChange Rows.millRunsSpec))=true:=by kernel_rfl
theorem SU:(laidOutB Tryz.pinned.checked.prog)=true:=by kernel_rfl
theorem SV:(mapsRowed Tryz.pinned.checked.prog)=true:=by kernel_rfl
theorem SW:(Tryz.f3.params.all (Tryz.pinned.checked.prog.readableRec ·))=true:=by kernel_rfl
theorem SX:(namedTie Tryz.pinned.checked.prog Rows.millRunsRow.named Rows.millRunsSpec.vars)=true:=by kernel_rfl
theorem SY:((Rows.millRunsRow.stops ==[]))=true:=by kernel_rfl
theorem SZ:((Tryz.pinned.checked.prog.stops ==[]))=true:=by kernel_rfl
theorem S2:((Rows.millRunsRow.knobs ==[]))=true:=by kernel_rfl
theorem S3:((Tryz.pinned.checked.prog.stopKnobs ==[]))=true:=by kernel_rfl
theorem Q6:((Rows.millRunsRow.inPlace ==Tryz.pinned.checked.prog.inPlace 3))=true:=by kernel_rfl
theorem Q7:((Rows.millRunsRow.unfollowed ==Tryz.pinned.checked.prog.unfollowed 3))=true:=by kernel_rfl
theorem Q8:((Rows.millRunsRow.recurses ==Tryz.pinned.checked.prog.recurses 3))=true:=by kernel_rfl
theorem Q9:((Rows.millRunsRow.named ==Tryz.pinned.checked.prog.varsNamed 3))=true:=by kernel_rfl
theorem Ra:((Rows.millRunsRow.maps ==(Tryz.f3.params.toList++Rows.millRunsSpec.plain.varTypes Tryz.pinned.checked.prog).any (Tryz.pinned.checked.prog.mapsRec ·)))=true:=by kernel_rfl
theorem Rb:((Rows.millRunsRow.ifaces ==(Tryz.f3.params.toList++Rows.millRunsSpec.plain.varTypes Tryz.pinned.checked.prog).any (Tryz.pinned.checked.prog.ifacesRec ·)))=true:=by kernel_rfl
theorem Rc:((Rows.millRunsRow.mapsOut ==Tryz.pinned.checked.prog.mapsAmong Tryz.f3.resultTypes.toList))=true:=by kernel_rfl
theorem Re:((Rows.millRunsRow.loops ==(Tryz.f3.params.toList++Rows.millRunsSpec.plain.varTypes Tryz.pinned.checked.prog).any (Tryz.pinned.checked.prog.loopsFrom ·)))=true:=by kernel_rfl
theorem Rf:((Rows.millRunsRow.wideKeys ==(Tryz.f3.params.toList++Rows.millRunsSpec.plain.varTypes Tryz.pinned.checked.prog++Tryz.f3.resultTypes.toList).any (Tryz.pinned.checked.prog.wideKeysFrom ·)))=true:=by kernel_rfl
theorem Rg:(Rows.millRunsSpec.vars.all (Tryz.pinned.checked.prog.varReadable ·))=true:=by kernel_rfl
theorem Rh:(Tryz.f3.resultTypes.all (fun t=>Tryz.pinned.checked.prog.readableRec t&&decide (t<Tryz.pinned.checked.prog.types.size)))=true:=by kernel_rfl
theorem Ri:((Rows.millRunsRow.ifacesOut ==Tryz.f3.resultTypes.toList.any (Tryz.pinned.checked.prog.ifacesRec ·)))=true:=by kernel_rfl
theorem Rj:((Rows.millRunsRow.loopsOut ==Tryz.f3.resultTypes.toList.any (Tryz.pinned.checked.prog.loopsFrom ·)))=true:=by kernel_rfl
theorem Rk:((Rows.millRunsRow.plainKeys ==Tryz.pinned.checked.prog.plainKeys))=true:=by kernel_rfl
theorem Rl:(Rows.millRunsRow.shortTexts.isNone)=true:=by kernel_rfl
theorem Rm:(Tryz.pinned.checked.prog.stopsHeard)=true:=by kernel_rfl
theorem Rn:(Tryz.pinned.checked.prog.mayEnter)=true:=by kernel_rfl
theorem Ro:((Rows.millRunsRow.lifted ==Tryz.pinned.checked.prog.liftsFinal))=true:=by kernel_rfl
theorem Rp:((Tryz.pinned.checked.prog.make ==some Rows.millRunsRow.make))=true:=by kernel_rfl
theorem Rq:((Rows.millRunsRow.kinds ==(if Rows.millRunsRow.domain.isEmpty then[] else Tryz.f3.params.toList.map fun t=>match Tryz.pinned.checked.prog.underlying t with | some (.int k)=>some k | _=>none)))=true:=by kernel_rfl
theorem Rr:((Rows.millRunsRow.pinned ==Rows.millRunsRow.pinnedBy))=true:=by kernel_rfl
theorem Rs:((Rows.millRunsRow.veiled ==(Tryz.f3.params.toList++Rows.millRunsSpec.plain.varTypes Tryz.pinned.checked.prog++Tryz.f3.resultTypes.toList).any (Tryz.pinned.checked.prog.veiledRec ·)))=true:=by kernel_rfl
theorem Rt:(Rows.millRunsRow.veiledFits Tryz.pinned.checked.prog Tryz.f3.params.toList (Tryz.f3.params.toList++Rows.millRunsSpec.plain.varTypes Tryz.pinned.checked.prog++Tryz.f3.resultTypes.toList))=true:=by kernel_rfl
theorem closed_MillRuns:joinedFacts Tryz.pinned.checked.prog 3 Tryz.f3 Rows.millRunsSpec Rows.millRunsRow=true:=by
 unfold joinedFacts;exact(eH (eH (eH (eH (eH (eH (eH (eH (eH (eH (eH (eH (eH (eH (eH (eH (eH (eH (eH (eH (eH (eH (eH (eH (eH (eH (eH (eH (eH (eH (eH SS SU) SV) SW) SX) SY) SZ) S2) S3) Q6) Q7) Q8) Q9) Ra) Rb) Rc) Re) Rf) Rg) Rh) Ri) Rj) Rk) Rl) Rm) Rn) Ro) Rp) Rq) Rr) Rs) Rt)
end ST
end
end Go.Proofs.YtcmijampbjcbgaaGreatDoor
