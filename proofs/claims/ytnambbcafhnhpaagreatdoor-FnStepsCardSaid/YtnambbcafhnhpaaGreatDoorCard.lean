import Derived.Test.YtnambbcafhnhpaaGreatDoorLaw
import Derived.JoinedOf
import Derived.Handed
import Derived.HandedShaped
import Derived.Shelf.Vars
import Derived.LaidMore
import Derived.LaidSub
import Derived.Stop.Joined
import Derived.Lib.LaidTab
namespace Go.Proofs.YtnambbcafhnhpaaGreatDoor
open Go.RowKit Go.ChangeShapes Go.WideShapes Go.ChangeAt
set_option linter.unusedVariables false
theorem Yp {H:Type}{enc:TypeId×Value→H}{a:Assume}{C:Checked}{os:Os}{f:FuncId}{fn:Func}{s:ChangeSpec}{conds:List PathCond}{apart fresh handsOn again:Bool}{X:World→Array Value→Prop}
  (hX:∀(w w':World) (args:Array Value),w.heap=w'.heap→X w args→X w' args)
  (own:ownKnob C.prog.godebug=none) (started:os.Started) (noInit:C.prog.inits.idxOf? f=none) (hfn:C.prog.funcs[f]? =some fn)
  (witness:∃(w:World) (tape:Tape) (i:Input),w.os=os∧(w.forCall tape i).Shaped C.prog∧i.vars= []∧Input.okWide C.prog (w.forCall tape i) .any w.heap.size f i∧
    ((s.pre enc C.prog fn conds apart (w.forCall tape i).memory i.args∧X (w.forCall tape i).memory i.args)∧sizedMet enc C.prog fn (OpenSpec.ofChange s) apart (w.forCall tape i).memory i.args)∧a.holds C.prog (lone (Frame.enter C.prog f i.args .normal) [] (w.forCall tape i)))
  (contract:∀(W:World) (base:Nat) (args:Array Value) (ds gs:List (DataW H)) (nD:List MemPlace),(∀(j:Nat) t v,fn.params[j]? =some t→args[j]? =some v→Value.okWide C.prog W .any base t v)→
    DataW.Whole enc C.prog fn.params.toList s.vars apart W args.toList ds gs nD→W.ShapedOpen C.prog→X W args→
    Calls C.prog f args W fun e W'=>∃v,e= .returned v∧s.post enc C.prog fn apart fresh handsOn again W args v W'):
  ReturnsInHanded a C os f .any (fun w args=>(s.pre enc C.prog fn conds apart w args∧X w args)∧sizedMet enc C.prog fn (OpenSpec.ofChange s) apart w args) (s.post enc C.prog fn apart fresh handsOn again):=by
 refine returnsInHanded_of_calls own started noInit witness ?_
 intro w tape i _ hsh _ hok hpre hholds
 obtain⟨_,_,_,fn',hfn',_,_,_,_,hval⟩:=hok
 obtain rfl:fn'=fn:=Option.some.inj (hfn'.symm.trans hfn)
 obtain⟨⟨⟨ds,gs,nD,hw,hc⟩,hx⟩,hz⟩:=hpre
 refine(contract (w.forCall tape i) w.heap.size i.args ds gs nD hval (DataW.Whole.of_heap (w':=w.forCall tape i) (by rfl) hw) hsh (hX _ _ _ (by rfl) hx)).mono fun e W' hp=> ?_
 obtain⟨v,rfl,hp⟩:=hp
 exact ChangeSpec.post_blind hp
theorem acI {P:Program}{f:FuncId}{fn:Func}{s:ChangeSpec}{c:OpenClaim}(k1:(c.wf (OpenSpec.ofChange s))=true)(k2:(laidOutB P)=true)(k3:(mapsRowed P)=true)(k4:(fn.params.all (P.readableRec ·))=true)(k5:(namedTie P c.named s.vars)=true)(k6:((c.stops== []))=true)(k7:((P.stops== []))=true)(k8:((c.knobs== []))=true)(k9:((P.stopKnobs== []))=true)(k10:((c.inPlace==P.inPlace f))=true)(k11:((c.unfollowed==P.unfollowed f))=true)(k12:((c.recurses==P.recurses f))=true)(k13:((c.named==P.varsNamed f))=true)(k14:((c.maps==(fn.params.toList++s.plain.varTypes P).any (P.mapsRec ·)))=true)(k15:((c.ifaces==(fn.params.toList++s.plain.varTypes P).any (P.ifacesRec ·)))=true)(k16:((c.mapsOut==P.mapsAmong fn.resultTypes.toList))=true)(k17:((c.loops==(fn.params.toList++s.plain.varTypes P).any (P.loopsFrom ·)))=true)(k18:((c.wideKeys==(fn.params.toList++s.plain.varTypes P++fn.resultTypes.toList).any (P.wideKeysFrom ·)))=true)(k19:(s.vars.all (P.varReadable ·))=true)(k20:(fn.resultTypes.all (fun t=>P.readableRec t&&decide (t<P.types.size)))=true)(k21:((c.ifacesOut==fn.resultTypes.toList.any (P.ifacesRec ·)))=true)(k22:((c.loopsOut==fn.resultTypes.toList.any (P.loopsFrom ·)))=true)(k23:((c.plainKeys==P.plainKeys))=true)(k24:(c.shortTexts.isNone)=true)(k25:(P.stopsHeard)=true)(k26:(P.mayEnter)=true)(k27:((c.lifted==P.liftsFinal))=true)(k28:((P.make==some c.make))=true)(k29:((c.kinds==(if c.domain.isEmpty then []else fn.params.toList.map fun t=>match P.underlying t with|some (.int k)=>some k|_=>none)))=true)(k30:((c.pinned==c.pinnedBy))=true)(k31:((c.veiled==(fn.params.toList++s.plain.varTypes P++fn.resultTypes.toList).any (P.veiledRec ·)))=true)(k32:(c.veiledFits P fn.params.toList (fn.params.toList++s.plain.varTypes P++fn.resultTypes.toList))=true):joinedFacts P f fn s c=true:=by
 unfold joinedFacts
 iterate 31 rw[Bool.and_eq_true]
 exact⟨⟨⟨⟨⟨⟨⟨⟨⟨⟨⟨⟨⟨⟨⟨⟨⟨⟨⟨⟨⟨⟨⟨⟨⟨⟨⟨⟨⟨⟨⟨k1,k2⟩,k3⟩,k4⟩,k5⟩,k6⟩,k7⟩,k8⟩,k9⟩,k10⟩,k11⟩,k12⟩,k13⟩,k14⟩,k15⟩,k16⟩,k17⟩,k18⟩,k19⟩,k20⟩,k21⟩,k22⟩,k23⟩,k24⟩,k25⟩,k26⟩,k27⟩,k28⟩,k29⟩,k30⟩,k31⟩,k32⟩
end Go.Proofs.YtnambbcafhnhpaaGreatDoor
