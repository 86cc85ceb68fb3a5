/- Proved: EcuBroken, called with any arguments that its row admits, returns true, and every argument reads behind the call as it read before; the tables that the row lists are tied to the program's text (the given tie). Conditions: none beyond the card's own. This file joins: Plain Lean: what the tests of a step do to the faults, exactly. Plain Lean: the questions of a step, exactly. Plain Lean: the reactions in force, exactly; the test of a step where no sensor is broken. Plain Lean: the parts of a step where at most the answers are broken, exactly. Plain Lean: a step where at most the answers are broken, exactly. Plain Lean: runs of the unit join its steps. Plain Lean: runs without breaks are quiet. Plain Lean: a new unit is calm, and stays so in runs without breaks. Plain Lean: a step in which a sensor is broken, exactly in its tests. Plain Lean: EcuBroken: a broken sensor of the air or the coolant is found by its third test, and explained by its fault alone. Plain Lean: EcuBroken answers true whatever its arguments. What a row's listed tables give: the machine's premise on the table of decimal texts. EcuBroken's row, but for the great closed facts of its program. EcuBroken's row: called with any arguments that its row admits, in a world where the listed tables are laid, it returns true, and every argument reads behind the call as it read before. No body of the program starts a goroutine. -/
import Derived.Test.YtjhedhnghldjbaaGreatDoorEcuBrokenG
set_option linter.all false
set_option maxRecDepth 100000
noncomputable section
open Bool renaming and_false->eP0,or_false->eN9
open List renaming all_eq_true->bt1
open Option.some renaming inj->ca0
namespace Go.Proofs.YtjhedhnghldjbaaGreatDoor
open Go Go.Proofs
theorem ecuBroken.inPlace:Tryz.prog.inPlace 4=Rows.ecuBrokenRow.inPlace:=by kernel_rfl
theorem ecuBroken.unfollowed:Tryz.prog.unfollowed 4=Rows.ecuBrokenRow.unfollowed:=by kernel_rfl
theorem ecuBroken.recurses:Tryz.prog.recurses 4=Rows.ecuBrokenRow.recurses:=by kernel_rfl
theorem ecuBroken.named:Tryz.prog.varsNamed 4=Rows.ecuBrokenRow.named:=by kernel_rfl
theorem ecuBroken.stops:Tryz.prog.stops=[]:=by kernel_rfl
theorem ecuBroken.knobs:Tryz.prog.stopKnobs=[]:=by kernel_rfl
theorem ecuBroken.heard:Tryz.prog.stopsHeard=true:=by kernel_rfl
theorem ecuBroken.may:Tryz.prog.mayEnter=true:=by kernel_rfl
theorem ecuBroken.lifts:Tryz.prog.liftsFinal=Rows.ecuBrokenRow.lifted:=by kernel_rfl
theorem ecuBroken.keys:Tryz.prog.plainKeys=Rows.ecuBrokenRow.plainKeys:=by kernel_rfl
theorem ecuBroken.eV7:joinedFacts Tryz.prog 4 Tryz.f4 Rows.ecuBrokenSpec Rows.ecuBrokenRow=true:=by
 unfold joinedFacts
 rw[ecuBroken.inPlace,ecuBroken.unfollowed,ecuBroken.recurses,ecuBroken.named,ecuBroken.laidOut,ecuBroken.stops,ecuBroken.knobs,ecuBroken.heard,ecuBroken.may,ecuBroken.lifts,ecuBroken.keys]
 kernel_rfl
theorem ecuBroken_holds:Rows.EcuBrokenSaid:=
 OpenClaim.holds_of_wide 4 Tryz.f4 rfl rfl rfl rfl rfl rfl rfl ⟨rfl,rfl,rfl,rfl,rfl⟩ rfl rfl rfl rfl rfl (by kernel_rfl) Tryz.func4 ecuBroken.eV7
  (of_decide_eq_true (by kernel_rfl)) (by unfold Func.isWrapper;first|(rw[if_pos (by decide+kernel)];kernel_rfl)|(rw[if_neg (by decide+kernel)];exact⟨rfl,rfl⟩))
  (fun os started H enc _=>ecuBroken.lifted os started H enc)
open Go Go.Proofs
theorem eO3:Tryz.prog.funcs.any Func.goes=false:=by kernel_rfl
theorem ff5 (g:Nat):(Tryz.prog.funcs[g]?).any Func.goes=false:=by
 cases h:Tryz.prog.funcs[g]?with
 |none=>rfl
 |some fn=>
  have:=Array.any_eq_false.1 eO3
  obtain⟨hg,hf⟩:=Array.getElem?_eq_some_iff.1 h
  have:=this g hg
  rw[hf]at this
  simpa using this
def eH0 (s:String)(f:Nat)(hf:Tryz.prog.funcNamed s=some f):Tryz.prog.goesAt .entering s=false:=by
 unfold Program.goesAt Program.goesFrom
 rw[hf]
 simp only[Option.any_some,eN9]
 unfold Program.goes
 rw[eO3,eP0,eN9]
 rw[List.any_eq_false]
 intro g _
 rw[ff5 g]
 simp
open Go
theorem ecuBrokenCard_holds:Rows.EcuBrokenCardSaid:=
  Claim7.holds_tied_plain_at .later [] [.data, .data, .data] true (true,"4e142df824e10561aebcc6baf8ea7fc659197786861958a9deeb91bde1b806d6") false
    ecuBroken_holds (fun _ h=>by cases h) (by kernel_rfl) (fun _ h=>by cases h) ecuBroken_row_tie rfl ⟨rfl,rfl⟩ (by kernel_rfl) rfl
    (fun f fn hf hfn=>by
      obtain rfl:f=4:=ca0 ((show Tryz.prog.funcNamed "magneto/magnetolaw56.EcuBroken" =some 4 by kernel_rfl).symm.trans hf)|>.symm
      obtain rfl:fn=Tryz.f4:=(ca0 (Tryz.func4.symm.trans hfn)).symm
      exact⟨by kernel_rfl,fun j t ht=>by
        rw[Tryz.params4]at ht
        have hm:t∈[55,59,68,4,5,5,69]:=by simpa using Array.mem_of_getElem? ht
        have bN4:([55,59,68,4,5,5,69].all fun u=> !Tryz.prog.wantsStandIn u)=true:=by kernel_rfl
        exact(show Tryz.prog.wantsStandIn t=false by simpa using bt1.1 bN4 t hm)⟩)
    (eH0 _ 4 (by kernel_rfl)).symm
#print axioms ecuBrokenCard_holds
end Go.Proofs.YtjhedhnghldjbaaGreatDoor
