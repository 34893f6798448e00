/- Data that comes in, as Lean structures. Shows that come in. The laws on what comes in: facts of the whole program. .. -/
import Derived.Test.YtanojbajfgcjeaaGreatDoorFShbAC
import Derived.Test.YtanojbajfgcjeaaGreatDoorF1
import Derived.Test.YtanojbajfgcjeaaGreatDoorF2
import Derived.Test.YtanojbajfgcjeaaGreatDoorCards
import Derived.Test.YtanojbajfgcjeaaGreatDoorFShbAE
import Derived.SizedLaws
import Derived.WalkKit
import Derived.ProofKit
import Derived.OpenShut
import Derived.ChangeMaps5
import Derived.LaidLaws
import Derived.LaidHandle
import Derived.Lay
import Derived.SevenTiedAt
set_option linter.unusedSimpArgs false
set_option linter.unusedVariables false
namespace Go.Proofs.YtanojbajfgcjeaaGreatDoor
open Go.Sha
def Pt.sh:List CSh:=[.int .i64,.int .i64]
structure Pt.Dk (z:Pt):Prop where
 x:-9223372036854775808≤z.x∧z.x≤9223372036854775807
 y:-9223372036854775808≤z.y∧z.y≤9223372036854775807
theorem Pt.rd {vs:List V} (h:OkCs Pt.sh vs):∃x:Pt,V.agg vs=x.v∧x.Dk:=by
 obtain ⟨v0,r0,rfl,h0,t0⟩:=h.cons_inv
 obtain ⟨v1,r1,rfl,h1,t1⟩:=t0.cons_inv
 obtain rfl:=t1.nil_inv
 obtain ⟨y0,rfl,b0⟩:=h0.i64_inv
 obtain ⟨y1,rfl,b1⟩:=h1.i64_inv
 exact ⟨⟨y0,y1⟩,rfl,⟨b0,b1⟩⟩
def Slt.sh:List CSh:=[.str,.int .i64,.int .i64]
structure Slt.Dk (z:Slt):Prop where
 name:z.name.length≤140737488351232
 fr:-9223372036854775808≤z.fr∧z.fr≤9223372036854775807
 to_:-9223372036854775808≤z.to_∧z.to_≤9223372036854775807
theorem Slt.rd {vs:List V} (h:OkCs Slt.sh vs):∃x:Slt,V.agg vs=x.v∧x.Dk:=by
 obtain ⟨v0,r0,rfl,h0,t0⟩:=h.cons_inv
 obtain ⟨v1,r1,rfl,h1,t1⟩:=t0.cons_inv
 obtain ⟨v2,r2,rfl,h2,t2⟩:=t1.cons_inv
 obtain rfl:=t2.nil_inv
 obtain ⟨y0,rfl,b0⟩:=h0.str_inv
 obtain ⟨y1,rfl,b1⟩:=h1.i64_inv
 obtain ⟨y2,rfl,b2⟩:=h2.i64_inv
 exact ⟨⟨y0,y1,y2⟩,rfl,⟨b0,b1,b2⟩⟩
def Ftr.sh:List CSh:=[.int .i64,.int .i64,.int .i64,.int .i64,.int .i64,.int .i64,.int .i64,.int .i64,.bool,.sl true 32 Slt.sh]
structure Ftr.Dk (z:Ftr):Prop where
 attr:-9223372036854775808≤z.attr∧z.attr≤9223372036854775807
 bits:-9223372036854775808≤z.bits∧z.bits≤9223372036854775807
 coarse:-9223372036854775808≤z.coarse∧z.coarse≤9223372036854775807
 fine:-9223372036854775808≤z.fine∧z.fine≤9223372036854775807
 curve:-9223372036854775808≤z.curve∧z.curve≤9223372036854775807
 home:-9223372036854775808≤z.home∧z.home≤9223372036854775807
 low:-9223372036854775808≤z.low∧z.low≤9223372036854775807
 high:-9223372036854775808≤z.high∧z.high≤9223372036854775807
 snap:True
 wheel:z.wheel.length≤140737488351232∧∀q∈z.wheel,q.Dk
theorem Ftr.rd {vs:List V} (h:OkCs Ftr.sh vs):∃x:Ftr,V.agg vs=x.v∧x.Dk:=by
 obtain ⟨v0,r0,rfl,h0,t0⟩:=h.cons_inv
 obtain ⟨v1,r1,rfl,h1,t1⟩:=t0.cons_inv
 obtain ⟨v2,r2,rfl,h2,t2⟩:=t1.cons_inv
 obtain ⟨v3,r3,rfl,h3,t3⟩:=t2.cons_inv
 obtain ⟨v4,r4,rfl,h4,t4⟩:=t3.cons_inv
 obtain ⟨v5,r5,rfl,h5,t5⟩:=t4.cons_inv
 obtain ⟨v6,r6,rfl,h6,t6⟩:=t5.cons_inv
 obtain ⟨v7,r7,rfl,h7,t7⟩:=t6.cons_inv
 obtain ⟨v8,r8,rfl,h8,t8⟩:=t7.cons_inv
 obtain ⟨v9,r9,rfl,h9,t9⟩:=t8.cons_inv
 obtain rfl:=t9.nil_inv
 obtain ⟨y0,rfl,b0⟩:=h0.i64_inv
 obtain ⟨y1,rfl,b1⟩:=h1.i64_inv
 obtain ⟨y2,rfl,b2⟩:=h2.i64_inv
 obtain ⟨y3,rfl,b3⟩:=h3.i64_inv
 obtain ⟨y4,rfl,b4⟩:=h4.i64_inv
 obtain ⟨y5,rfl,b5⟩:=h5.i64_inv
 obtain ⟨y6,rfl,b6⟩:=h6.i64_inv
 obtain ⟨y7,rfl,b7⟩:=h7.i64_inv
 obtain ⟨y8,rfl⟩:=h8.bool_inv
 have b8:=trivial
 obtain ⟨y9,rfl,b9⟩:=h9.agg_inv (f:=Slt.v) (by decide) (fun _=>Slt.rd)
 exact ⟨⟨y0,y1,y2,y3,y4,y5,y6,y7,y8,y9⟩,rfl,⟨b0,b1,b2,b3,b4,b5,b6,b7,b8,b9⟩⟩
def Prof.sh:List CSh:=[.str,.int .i64,.int .i64,.sl true 96 Ftr.sh]
structure Prof.Dk (z:Prof):Prop where
 name:z.name.length≤140737488351232
 foot:-9223372036854775808≤z.foot∧z.foot≤9223372036854775807
 watts:-9223372036854775808≤z.watts∧z.watts≤9223372036854775807
 feats:z.feats.length≤140737488351232∧∀q∈z.feats,q.Dk
theorem Prof.rd {vs:List V} (h:OkCs Prof.sh vs):∃x:Prof,V.agg vs=x.v∧x.Dk:=by
 obtain ⟨v0,r0,rfl,h0,t0⟩:=h.cons_inv
 obtain ⟨v1,r1,rfl,h1,t1⟩:=t0.cons_inv
 obtain ⟨v2,r2,rfl,h2,t2⟩:=t1.cons_inv
 obtain ⟨v3,r3,rfl,h3,t3⟩:=t2.cons_inv
 obtain rfl:=t3.nil_inv
 obtain ⟨y0,rfl,b0⟩:=h0.str_inv
 obtain ⟨y1,rfl,b1⟩:=h1.i64_inv
 obtain ⟨y2,rfl,b2⟩:=h2.i64_inv
 obtain ⟨y3,rfl,b3⟩:=h3.agg_inv (f:=Ftr.v) (by decide) (fun _=>Ftr.rd)
 exact ⟨⟨y0,y1,y2,y3⟩,rfl,⟨b0,b1,b2,b3⟩⟩
def Fixt.sh:List CSh:=[.int .i64,.int .i64,.str,.int .i64,.int .i64,.int .i64,.str]
structure Fixt.Dk (z:Fixt):Prop where
 chan:-9223372036854775808≤z.chan∧z.chan≤9223372036854775807
 part:-9223372036854775808≤z.part∧z.part≤9223372036854775807
 prof:z.prof.length≤140737488351232
 univ:-9223372036854775808≤z.univ∧z.univ≤9223372036854775807
 addr:-9223372036854775808≤z.addr∧z.addr≤9223372036854775807
 phase:-9223372036854775808≤z.phase∧z.phase≤9223372036854775807
 cable:z.cable.length≤140737488351232
theorem Fixt.rd {vs:List V} (h:OkCs Fixt.sh vs):∃x:Fixt,V.agg vs=x.v∧x.Dk:=by
 obtain ⟨v0,r0,rfl,h0,t0⟩:=h.cons_inv
 obtain ⟨v1,r1,rfl,h1,t1⟩:=t0.cons_inv
 obtain ⟨v2,r2,rfl,h2,t2⟩:=t1.cons_inv
 obtain ⟨v3,r3,rfl,h3,t3⟩:=t2.cons_inv
 obtain ⟨v4,r4,rfl,h4,t4⟩:=t3.cons_inv
 obtain ⟨v5,r5,rfl,h5,t5⟩:=t4.cons_inv
 obtain ⟨v6,r6,rfl,h6,t6⟩:=t5.cons_inv
 obtain rfl:=t6.nil_inv
 obtain ⟨y0,rfl,b0⟩:=h0.i64_inv
 obtain ⟨y1,rfl,b1⟩:=h1.i64_inv
 obtain ⟨y2,rfl,b2⟩:=h2.str_inv
 obtain ⟨y3,rfl,b3⟩:=h3.i64_inv
 obtain ⟨y4,rfl,b4⟩:=h4.i64_inv
 obtain ⟨y5,rfl,b5⟩:=h5.i64_inv
 obtain ⟨y6,rfl,b6⟩:=h6.str_inv
 exact ⟨⟨y0,y1,y2,y3,y4,y5,y6⟩,rfl,⟨b0,b1,b2,b3,b4,b5,b6⟩⟩
def Prm.sh:List CSh:=[.int .i64,.int .i64]
structure Prm.Dk (z:Prm):Prop where
 chan:-9223372036854775808≤z.chan∧z.chan≤9223372036854775807
 attr:-9223372036854775808≤z.attr∧z.attr≤9223372036854775807
theorem Prm.rd {vs:List V} (h:OkCs Prm.sh vs):∃x:Prm,V.agg vs=x.v∧x.Dk:=by
 obtain ⟨v0,r0,rfl,h0,t0⟩:=h.cons_inv
 obtain ⟨v1,r1,rfl,h1,t1⟩:=t0.cons_inv
 obtain rfl:=t1.nil_inv
 obtain ⟨y0,rfl,b0⟩:=h0.i64_inv
 obtain ⟨y1,rfl,b1⟩:=h1.i64_inv
 exact ⟨⟨y0,y1⟩,rfl,⟨b0,b1⟩⟩
def Val.sh:List CSh:=[.int .i64,.int .i64]
structure Val.Dk (z:Val):Prop where
 pal:-9223372036854775808≤z.pal∧z.pal≤9223372036854775807
 lev:-9223372036854775808≤z.lev∧z.lev≤9223372036854775807
theorem Val.rd {vs:List V} (h:OkCs Val.sh vs):∃x:Val,V.agg vs=x.v∧x.Dk:=by
 obtain ⟨v0,r0,rfl,h0,t0⟩:=h.cons_inv
 obtain ⟨v1,r1,rfl,h1,t1⟩:=t0.cons_inv
 obtain rfl:=t1.nil_inv
 obtain ⟨y0,rfl,b0⟩:=h0.i64_inv
 obtain ⟨y1,rfl,b1⟩:=h1.i64_inv
 exact ⟨⟨y0,y1⟩,rfl,⟨b0,b1⟩⟩
def Grp.sh:List CSh:=[.int .i64,.sl false 8 [.int .i64]]
structure Grp.Dk (z:Grp):Prop where
 num:-9223372036854775808≤z.num∧z.num≤9223372036854775807
 chans:z.chans.length≤140737488351232∧∀q∈z.chans,-9223372036854775808≤q∧q≤9223372036854775807
theorem Grp.rd {vs:List V} (h:OkCs Grp.sh vs):∃x:Grp,V.agg vs=x.v∧x.Dk:=by
 obtain ⟨v0,r0,rfl,h0,t0⟩:=h.cons_inv
 obtain ⟨v1,r1,rfl,h1,t1⟩:=t0.cons_inv
 obtain rfl:=t1.nil_inv
 obtain ⟨y0,rfl,b0⟩:=h0.i64_inv
 obtain ⟨y1,rfl,b1⟩:=h1.one_inv (f:=V.int .i64) (by decide) (fun v h=>h.i64_inv)
 exact ⟨⟨y0,y1⟩,rfl,⟨b0,b1⟩⟩
def Hue.sh:List CSh:=[.int .i64,.int .i64,.int .i64]
structure Hue.Dk (z:Hue):Prop where
 chan:-9223372036854775808≤z.chan∧z.chan≤9223372036854775807
 attr:-9223372036854775808≤z.attr∧z.attr≤9223372036854775807
 lev:-9223372036854775808≤z.lev∧z.lev≤9223372036854775807
theorem Hue.rd {vs:List V} (h:OkCs Hue.sh vs):∃x:Hue,V.agg vs=x.v∧x.Dk:=by
 obtain ⟨v0,r0,rfl,h0,t0⟩:=h.cons_inv
 obtain ⟨v1,r1,rfl,h1,t1⟩:=t0.cons_inv
 obtain ⟨v2,r2,rfl,h2,t2⟩:=t1.cons_inv
 obtain rfl:=t2.nil_inv
 obtain ⟨y0,rfl,b0⟩:=h0.i64_inv
 obtain ⟨y1,rfl,b1⟩:=h1.i64_inv
 obtain ⟨y2,rfl,b2⟩:=h2.i64_inv
 exact ⟨⟨y0,y1,y2⟩,rfl,⟨b0,b1,b2⟩⟩
def Pal.sh:List CSh:=[.int .i64,.sl true 24 Hue.sh]
structure Pal.Dk (z:Pal):Prop where
 num:-9223372036854775808≤z.num∧z.num≤9223372036854775807
 hues:z.hues.length≤140737488351232∧∀q∈z.hues,q.Dk
theorem Pal.rd {vs:List V} (h:OkCs Pal.sh vs):∃x:Pal,V.agg vs=x.v∧x.Dk:=by
 obtain ⟨v0,r0,rfl,h0,t0⟩:=h.cons_inv
 obtain ⟨v1,r1,rfl,h1,t1⟩:=t0.cons_inv
 obtain rfl:=t1.nil_inv
 obtain ⟨y0,rfl,b0⟩:=h0.i64_inv
 obtain ⟨y1,rfl,b1⟩:=h1.agg_inv (f:=Hue.v) (by decide) (fun _=>Hue.rd)
 exact ⟨⟨y0,y1⟩,rfl,⟨b0,b1⟩⟩
def Tim.sh:List CSh:=[.int .i64,.int .i64,.int .i64,.int .i64,.int .i64,.int .i64]
structure Tim.Dk (z:Tim):Prop where
 up:-9223372036854775808≤z.up∧z.up≤9223372036854775807
 down:-9223372036854775808≤z.down∧z.down≤9223372036854775807
 posi:-9223372036854775808≤z.posi∧z.posi≤9223372036854775807
 colour:-9223372036854775808≤z.colour∧z.colour≤9223372036854775807
 beam:-9223372036854775808≤z.beam∧z.beam≤9223372036854775807
 delay:-9223372036854775808≤z.delay∧z.delay≤9223372036854775807
theorem Tim.rd {vs:List V} (h:OkCs Tim.sh vs):∃x:Tim,V.agg vs=x.v∧x.Dk:=by
 obtain ⟨v0,r0,rfl,h0,t0⟩:=h.cons_inv
 obtain ⟨v1,r1,rfl,h1,t1⟩:=t0.cons_inv
 obtain ⟨v2,r2,rfl,h2,t2⟩:=t1.cons_inv
 obtain ⟨v3,r3,rfl,h3,t3⟩:=t2.cons_inv
 obtain ⟨v4,r4,rfl,h4,t4⟩:=t3.cons_inv
 obtain ⟨v5,r5,rfl,h5,t5⟩:=t4.cons_inv
 obtain rfl:=t5.nil_inv
 obtain ⟨y0,rfl,b0⟩:=h0.i64_inv
 obtain ⟨y1,rfl,b1⟩:=h1.i64_inv
 obtain ⟨y2,rfl,b2⟩:=h2.i64_inv
 obtain ⟨y3,rfl,b3⟩:=h3.i64_inv
 obtain ⟨y4,rfl,b4⟩:=h4.i64_inv
 obtain ⟨y5,rfl,b5⟩:=h5.i64_inv
 exact ⟨⟨y0,y1,y2,y3,y4,y5⟩,rfl,⟨b0,b1,b2,b3,b4,b5⟩⟩
def Mov.sh:List CSh:=[.int .i64,.int .i64,.int .i64,.int .i64,.int .i64]
structure Mov.Dk (z:Mov):Prop where
 prm:z.prm.Dk
 val:z.val.Dk
 part:-9223372036854775808≤z.part∧z.part≤9223372036854775807
theorem Mov.rd {vs:List V} (h:OkCs Mov.sh vs):∃x:Mov,V.agg vs=x.v∧x.Dk:=by
 obtain ⟨v0,r0,rfl,h0,t0⟩:=h.cons_inv
 obtain ⟨v1,r1,rfl,h1,t1⟩:=t0.cons_inv
 obtain ⟨v2,r2,rfl,h2,t2⟩:=t1.cons_inv
 obtain ⟨v3,r3,rfl,h3,t3⟩:=t2.cons_inv
 obtain ⟨v4,r4,rfl,h4,t4⟩:=t3.cons_inv
 obtain rfl:=t4.nil_inv
 obtain ⟨y0,rfl,b0⟩:=h0.i64_inv
 obtain ⟨y1,rfl,b1⟩:=h1.i64_inv
 obtain ⟨y2,rfl,b2⟩:=h2.i64_inv
 obtain ⟨y3,rfl,b3⟩:=h3.i64_inv
 obtain ⟨y4,rfl,b4⟩:=h4.i64_inv
 exact ⟨⟨⟨y0,y1⟩,⟨y2,y3⟩,y4⟩,rfl,⟨⟨b0,b1⟩,⟨b2,b3⟩,b4⟩⟩
def Cu.sh:List CSh:=[.str,.str,.sl true 40 Mov.sh,.sl true 48 Tim.sh,.bool,.bool,.int .i64,.str,.int .i64]
structure Cu.Dk (z:Cu):Prop where
 num:z.num.length≤140737488351232
 label:z.label.length≤140737488351232
 moves:z.moves.length≤140737488351232∧∀q∈z.moves,q.Dk
 parts:z.parts.length≤140737488351232∧∀q∈z.parts,q.Dk
 block:True
 mark:True
 follow:-9223372036854775808≤z.follow∧z.follow≤9223372036854775807
 link:z.link.length≤140737488351232
 loops:-9223372036854775808≤z.loops∧z.loops≤9223372036854775807
theorem Cu.rd {vs:List V} (h:OkCs Cu.sh vs):∃x:Cu,V.agg vs=x.v∧x.Dk:=by
 obtain ⟨v0,r0,rfl,h0,t0⟩:=h.cons_inv
 obtain ⟨v1,r1,rfl,h1,t1⟩:=t0.cons_inv
 obtain ⟨v2,r2,rfl,h2,t2⟩:=t1.cons_inv
 obtain ⟨v3,r3,rfl,h3,t3⟩:=t2.cons_inv
 obtain ⟨v4,r4,rfl,h4,t4⟩:=t3.cons_inv
 obtain ⟨v5,r5,rfl,h5,t5⟩:=t4.cons_inv
 obtain ⟨v6,r6,rfl,h6,t6⟩:=t5.cons_inv
 obtain ⟨v7,r7,rfl,h7,t7⟩:=t6.cons_inv
 obtain ⟨v8,r8,rfl,h8,t8⟩:=t7.cons_inv
 obtain rfl:=t8.nil_inv
 obtain ⟨y0,rfl,b0⟩:=h0.str_inv
 obtain ⟨y1,rfl,b1⟩:=h1.str_inv
 obtain ⟨y2,rfl,b2⟩:=h2.agg_inv (f:=Mov.v) (by decide) (fun _=>Mov.rd)
 obtain ⟨y3,rfl,b3⟩:=h3.agg_inv (f:=Tim.v) (by decide) (fun _=>Tim.rd)
 obtain ⟨y4,rfl⟩:=h4.bool_inv
 have b4:=trivial
 obtain ⟨y5,rfl⟩:=h5.bool_inv
 have b5:=trivial
 obtain ⟨y6,rfl,b6⟩:=h6.i64_inv
 obtain ⟨y7,rfl,b7⟩:=h7.str_inv
 obtain ⟨y8,rfl,b8⟩:=h8.i64_inv
 exact ⟨⟨y0,y1,y2,y3,y4,y5,y6,y7,y8⟩,rfl,⟨b0,b1,b2,b3,b4,b5,b6,b7,b8⟩⟩
def Lst.sh:List CSh:=[.int .i64,.int .i64,.sl true 120 Cu.sh]
structure Lst.Dk (z:Lst):Prop where
 num:-9223372036854775808≤z.num∧z.num≤9223372036854775807
 prio:-9223372036854775808≤z.prio∧z.prio≤9223372036854775807
 cues:z.cues.length≤140737488351232∧∀q∈z.cues,q.Dk
theorem Lst.rd {vs:List V} (h:OkCs Lst.sh vs):∃x:Lst,V.agg vs=x.v∧x.Dk:=by
 obtain ⟨v0,r0,rfl,h0,t0⟩:=h.cons_inv
 obtain ⟨v1,r1,rfl,h1,t1⟩:=t0.cons_inv
 obtain ⟨v2,r2,rfl,h2,t2⟩:=t1.cons_inv
 obtain rfl:=t2.nil_inv
 obtain ⟨y0,rfl,b0⟩:=h0.i64_inv
 obtain ⟨y1,rfl,b1⟩:=h1.i64_inv
 obtain ⟨y2,rfl,b2⟩:=h2.agg_inv (f:=Cu.v) (by decide) (fun _=>Cu.rd)
 exact ⟨⟨y0,y1,y2⟩,rfl,⟨b0,b1,b2⟩⟩
def Gan.sh:List CSh:=[.int .i64,.int .i64,.int .i64]
structure Gan.Dk (z:Gan):Prop where
 prm:z.prm.Dk
 lev:-9223372036854775808≤z.lev∧z.lev≤9223372036854775807
theorem Gan.rd {vs:List V} (h:OkCs Gan.sh vs):∃x:Gan,V.agg vs=x.v∧x.Dk:=by
 obtain ⟨v0,r0,rfl,h0,t0⟩:=h.cons_inv
 obtain ⟨v1,r1,rfl,h1,t1⟩:=t0.cons_inv
 obtain ⟨v2,r2,rfl,h2,t2⟩:=t1.cons_inv
 obtain rfl:=t2.nil_inv
 obtain ⟨y0,rfl,b0⟩:=h0.i64_inv
 obtain ⟨y1,rfl,b1⟩:=h1.i64_inv
 obtain ⟨y2,rfl,b2⟩:=h2.i64_inv
 exact ⟨⟨⟨y0,y1⟩,y2⟩,rfl,⟨⟨b0,b1⟩,b2⟩⟩
def Sb.sh:List CSh:=[.int .i64,.int .i64,.bool,.sl true 24 Gan.sh]
structure Sb.Dk (z:Sb):Prop where
 num:-9223372036854775808≤z.num∧z.num≤9223372036854775807
 prio:-9223372036854775808≤z.prio∧z.prio≤9223372036854775807
 inh:True
 gains:z.gains.length≤140737488351232∧∀q∈z.gains,q.Dk
theorem Sb.rd {vs:List V} (h:OkCs Sb.sh vs):∃x:Sb,V.agg vs=x.v∧x.Dk:=by
 obtain ⟨v0,r0,rfl,h0,t0⟩:=h.cons_inv
 obtain ⟨v1,r1,rfl,h1,t1⟩:=t0.cons_inv
 obtain ⟨v2,r2,rfl,h2,t2⟩:=t1.cons_inv
 obtain ⟨v3,r3,rfl,h3,t3⟩:=t2.cons_inv
 obtain rfl:=t3.nil_inv
 obtain ⟨y0,rfl,b0⟩:=h0.i64_inv
 obtain ⟨y1,rfl,b1⟩:=h1.i64_inv
 obtain ⟨y2,rfl⟩:=h2.bool_inv
 have b2:=trivial
 obtain ⟨y3,rfl,b3⟩:=h3.agg_inv (f:=Gan.v) (by decide) (fun _=>Gan.rd)
 exact ⟨⟨y0,y1,y2,y3⟩,rfl,⟨b0,b1,b2,b3⟩⟩
def Eff.sh:List CSh:=[.int .i64,.int .i64,.sl true 16 Pt.sh,.int .i64,.int .i64,.int .i64]
structure Eff.Dk (z:Eff):Prop where
 num:-9223372036854775808≤z.num∧z.num≤9223372036854775807
 attr:-9223372036854775808≤z.attr∧z.attr≤9223372036854775807
 wave:z.wave.length≤140737488351232∧∀q∈z.wave,q.Dk
 period:-9223372036854775808≤z.period∧z.period≤9223372036854775807
 spread:-9223372036854775808≤z.spread∧z.spread≤9223372036854775807
 size:-9223372036854775808≤z.size∧z.size≤9223372036854775807
theorem Eff.rd {vs:List V} (h:OkCs Eff.sh vs):∃x:Eff,V.agg vs=x.v∧x.Dk:=by
 obtain ⟨v0,r0,rfl,h0,t0⟩:=h.cons_inv
 obtain ⟨v1,r1,rfl,h1,t1⟩:=t0.cons_inv
 obtain ⟨v2,r2,rfl,h2,t2⟩:=t1.cons_inv
 obtain ⟨v3,r3,rfl,h3,t3⟩:=t2.cons_inv
 obtain ⟨v4,r4,rfl,h4,t4⟩:=t3.cons_inv
 obtain ⟨v5,r5,rfl,h5,t5⟩:=t4.cons_inv
 obtain rfl:=t5.nil_inv
 obtain ⟨y0,rfl,b0⟩:=h0.i64_inv
 obtain ⟨y1,rfl,b1⟩:=h1.i64_inv
 obtain ⟨y2,rfl,b2⟩:=h2.agg_inv (f:=Pt.v) (by decide) (fun _=>Pt.rd)
 obtain ⟨y3,rfl,b3⟩:=h3.i64_inv
 obtain ⟨y4,rfl,b4⟩:=h4.i64_inv
 obtain ⟨y5,rfl,b5⟩:=h5.i64_inv
 exact ⟨⟨y0,y1,y2,y3,y4,y5⟩,rfl,⟨b0,b1,b2,b3,b4,b5⟩⟩
def Sho.sh:List CSh:=[.str,.sl false 24 [.sl true 16 Pt.sh],.sl true 56 Prof.sh,.sl true 72 Fixt.sh,.sl true 32 Grp.sh,.sl true 32 Pal.sh,.sl true 40 Lst.sh,.sl true 48 Sb.sh,.sl true 64 Eff.sh]
structure Sho.Dk (z:Sho):Prop where
 title:z.title.length≤140737488351232
 curves:z.curves.length≤140737488351232∧∀l∈z.curves,l.length≤140737488351232∧∀q∈l,q.Dk
 profs:z.profs.length≤140737488351232∧∀q∈z.profs,q.Dk
 fixts:z.fixts.length≤140737488351232∧∀q∈z.fixts,q.Dk
 grps:z.grps.length≤140737488351232∧∀q∈z.grps,q.Dk
 pals:z.pals.length≤140737488351232∧∀q∈z.pals,q.Dk
 lsts:z.lsts.length≤140737488351232∧∀q∈z.lsts,q.Dk
 subs:z.subs.length≤140737488351232∧∀q∈z.subs,q.Dk
 effs:z.effs.length≤140737488351232∧∀q∈z.effs,q.Dk
theorem Sho.rd {vs:List V} (h:OkCs Sho.sh vs):∃x:Sho,V.agg vs=x.v∧x.Dk:=by
 obtain ⟨v0,r0,rfl,h0,t0⟩:=h.cons_inv
 obtain ⟨v1,r1,rfl,h1,t1⟩:=t0.cons_inv
 obtain ⟨v2,r2,rfl,h2,t2⟩:=t1.cons_inv
 obtain ⟨v3,r3,rfl,h3,t3⟩:=t2.cons_inv
 obtain ⟨v4,r4,rfl,h4,t4⟩:=t3.cons_inv
 obtain ⟨v5,r5,rfl,h5,t5⟩:=t4.cons_inv
 obtain ⟨v6,r6,rfl,h6,t6⟩:=t5.cons_inv
 obtain ⟨v7,r7,rfl,h7,t7⟩:=t6.cons_inv
 obtain ⟨v8,r8,rfl,h8,t8⟩:=t7.cons_inv
 obtain rfl:=t8.nil_inv
 obtain ⟨y0,rfl,b0⟩:=h0.str_inv
 obtain ⟨y1,rfl,b1⟩:=h1.one_inv (f:=Pt.vs) (by decide) (fun v h=>h.agg_inv (f:=Pt.v) (by decide) (fun _=>Pt.rd))
 obtain ⟨y2,rfl,b2⟩:=h2.agg_inv (f:=Prof.v) (by decide) (fun _=>Prof.rd)
 obtain ⟨y3,rfl,b3⟩:=h3.agg_inv (f:=Fixt.v) (by decide) (fun _=>Fixt.rd)
 obtain ⟨y4,rfl,b4⟩:=h4.agg_inv (f:=Grp.v) (by decide) (fun _=>Grp.rd)
 obtain ⟨y5,rfl,b5⟩:=h5.agg_inv (f:=Pal.v) (by decide) (fun _=>Pal.rd)
 obtain ⟨y6,rfl,b6⟩:=h6.agg_inv (f:=Lst.v) (by decide) (fun _=>Lst.rd)
 obtain ⟨y7,rfl,b7⟩:=h7.agg_inv (f:=Sb.v) (by decide) (fun _=>Sb.rd)
 obtain ⟨y8,rfl,b8⟩:=h8.agg_inv (f:=Eff.v) (by decide) (fun _=>Eff.rd)
 exact ⟨⟨y0,y1,y2,y3,y4,y5,y6,y7,y8⟩,rfl,⟨b0,b1,b2,b3,b4,b5,b6,b7,b8⟩⟩
theorem Pt.inj {x y:Pt} (h:x.v=y.v):x=y:=by
 obtain ⟨x0,x1⟩:=x;obtain ⟨y0,y1⟩:=y
 simp only [Pt.v,V.agg.injEq,List.cons.injEq,V.int.injEq,V.str.injEq,V.bool.injEq,V.sl.injEq,true_and,and_true] at h
 obtain ⟨h0,h1⟩:=h
 cases h0
 cases h1
 rfl
theorem Slt.inj {x y:Slt} (h:x.v=y.v):x=y:=by
 obtain ⟨x0,x1,x2⟩:=x;obtain ⟨y0,y1,y2⟩:=y
 simp only [Slt.v,V.agg.injEq,List.cons.injEq,V.int.injEq,V.str.injEq,V.bool.injEq,V.sl.injEq,true_and,and_true] at h
 obtain ⟨h0,h1,h2⟩:=h
 cases h0
 cases h1
 cases h2
 rfl
theorem Ftr.inj {x y:Ftr} (h:x.v=y.v):x=y:=by
 obtain ⟨x0,x1,x2,x3,x4,x5,x6,x7,x8,x9⟩:=x;obtain ⟨y0,y1,y2,y3,y4,y5,y6,y7,y8,y9⟩:=y
 simp only [Ftr.v,V.agg.injEq,List.cons.injEq,V.int.injEq,V.str.injEq,V.bool.injEq,V.sl.injEq,true_and,and_true] at h
 obtain ⟨h0,h1,h2,h3,h4,h5,h6,h7,h8,h9⟩:=h
 cases h0
 cases h1
 cases h2
 cases h3
 cases h4
 cases h5
 cases h6
 cases h7
 cases h8
 cases map_inj Slt.inj h9
 rfl
theorem Prof.inj {x y:Prof} (h:x.v=y.v):x=y:=by
 obtain ⟨x0,x1,x2,x3⟩:=x;obtain ⟨y0,y1,y2,y3⟩:=y
 simp only [Prof.v,V.agg.injEq,List.cons.injEq,V.int.injEq,V.str.injEq,V.bool.injEq,V.sl.injEq,true_and,and_true] at h
 obtain ⟨h0,h1,h2,h3⟩:=h
 cases h0
 cases h1
 cases h2
 cases map_inj Ftr.inj h3
 rfl
theorem Fixt.inj {x y:Fixt} (h:x.v=y.v):x=y:=by
 obtain ⟨x0,x1,x2,x3,x4,x5,x6⟩:=x;obtain ⟨y0,y1,y2,y3,y4,y5,y6⟩:=y
 simp only [Fixt.v,V.agg.injEq,List.cons.injEq,V.int.injEq,V.str.injEq,V.bool.injEq,V.sl.injEq,true_and,and_true] at h
 obtain ⟨h0,h1,h2,h3,h4,h5,h6⟩:=h
 cases h0
 cases h1
 cases h2
 cases h3
 cases h4
 cases h5
 cases h6
 rfl
theorem Prm.inj {x y:Prm} (h:x.v=y.v):x=y:=by
 obtain ⟨x0,x1⟩:=x;obtain ⟨y0,y1⟩:=y
 simp only [Prm.v,V.agg.injEq,List.cons.injEq,V.int.injEq,V.str.injEq,V.bool.injEq,V.sl.injEq,true_and,and_true] at h
 obtain ⟨h0,h1⟩:=h
 cases h0
 cases h1
 rfl
theorem Val.inj {x y:Val} (h:x.v=y.v):x=y:=by
 obtain ⟨x0,x1⟩:=x;obtain ⟨y0,y1⟩:=y
 simp only [Val.v,V.agg.injEq,List.cons.injEq,V.int.injEq,V.str.injEq,V.bool.injEq,V.sl.injEq,true_and,and_true] at h
 obtain ⟨h0,h1⟩:=h
 cases h0
 cases h1
 rfl
theorem Grp.inj {x y:Grp} (h:x.v=y.v):x=y:=by
 obtain ⟨x0,x1⟩:=x;obtain ⟨y0,y1⟩:=y
 simp only [Grp.v,V.agg.injEq,List.cons.injEq,V.int.injEq,V.str.injEq,V.bool.injEq,V.sl.injEq,true_and,and_true] at h
 obtain ⟨h0,h1⟩:=h
 cases h0
 cases map_inj (f:=V.int .i64) (fun h=>(V.int.inj h).2) h1
 rfl
theorem Hue.inj {x y:Hue} (h:x.v=y.v):x=y:=by
 obtain ⟨x0,x1,x2⟩:=x;obtain ⟨y0,y1,y2⟩:=y
 simp only [Hue.v,V.agg.injEq,List.cons.injEq,V.int.injEq,V.str.injEq,V.bool.injEq,V.sl.injEq,true_and,and_true] at h
 obtain ⟨h0,h1,h2⟩:=h
 cases h0
 cases h1
 cases h2
 rfl
theorem Pal.inj {x y:Pal} (h:x.v=y.v):x=y:=by
 obtain ⟨x0,x1⟩:=x;obtain ⟨y0,y1⟩:=y
 simp only [Pal.v,V.agg.injEq,List.cons.injEq,V.int.injEq,V.str.injEq,V.bool.injEq,V.sl.injEq,true_and,and_true] at h
 obtain ⟨h0,h1⟩:=h
 cases h0
 cases map_inj Hue.inj h1
 rfl
theorem Tim.inj {x y:Tim} (h:x.v=y.v):x=y:=by
 obtain ⟨x0,x1,x2,x3,x4,x5⟩:=x;obtain ⟨y0,y1,y2,y3,y4,y5⟩:=y
 simp only [Tim.v,V.agg.injEq,List.cons.injEq,V.int.injEq,V.str.injEq,V.bool.injEq,V.sl.injEq,true_and,and_true] at h
 obtain ⟨h0,h1,h2,h3,h4,h5⟩:=h
 cases h0
 cases h1
 cases h2
 cases h3
 cases h4
 cases h5
 rfl
theorem Mov.inj {x y:Mov} (h:x.v=y.v):x=y:=by
 obtain ⟨⟨x0,x1⟩,⟨x2,x3⟩,x4⟩:=x;obtain ⟨⟨y0,y1⟩,⟨y2,y3⟩,y4⟩:=y
 simp only [Mov.v,V.agg.injEq,List.cons.injEq,V.int.injEq,V.str.injEq,V.bool.injEq,V.sl.injEq,true_and,and_true] at h
 obtain ⟨h0,h1,h2,h3,h4⟩:=h
 cases h0
 cases h1
 cases h2
 cases h3
 cases h4
 rfl
theorem Cu.inj {x y:Cu} (h:x.v=y.v):x=y:=by
 obtain ⟨x0,x1,x2,x3,x4,x5,x6,x7,x8⟩:=x;obtain ⟨y0,y1,y2,y3,y4,y5,y6,y7,y8⟩:=y
 simp only [Cu.v,V.agg.injEq,List.cons.injEq,V.int.injEq,V.str.injEq,V.bool.injEq,V.sl.injEq,true_and,and_true] at h
 obtain ⟨h0,h1,h2,h3,h4,h5,h6,h7,h8⟩:=h
 cases h0
 cases h1
 cases map_inj Mov.inj h2
 cases map_inj Tim.inj h3
 cases h4
 cases h5
 cases h6
 cases h7
 cases h8
 rfl
theorem Lst.inj {x y:Lst} (h:x.v=y.v):x=y:=by
 obtain ⟨x0,x1,x2⟩:=x;obtain ⟨y0,y1,y2⟩:=y
 simp only [Lst.v,V.agg.injEq,List.cons.injEq,V.int.injEq,V.str.injEq,V.bool.injEq,V.sl.injEq,true_and,and_true] at h
 obtain ⟨h0,h1,h2⟩:=h
 cases h0
 cases h1
 cases map_inj Cu.inj h2
 rfl
theorem Gan.inj {x y:Gan} (h:x.v=y.v):x=y:=by
 obtain ⟨⟨x0,x1⟩,x2⟩:=x;obtain ⟨⟨y0,y1⟩,y2⟩:=y
 simp only [Gan.v,V.agg.injEq,List.cons.injEq,V.int.injEq,V.str.injEq,V.bool.injEq,V.sl.injEq,true_and,and_true] at h
 obtain ⟨h0,h1,h2⟩:=h
 cases h0
 cases h1
 cases h2
 rfl
theorem Sb.inj {x y:Sb} (h:x.v=y.v):x=y:=by
 obtain ⟨x0,x1,x2,x3⟩:=x;obtain ⟨y0,y1,y2,y3⟩:=y
 simp only [Sb.v,V.agg.injEq,List.cons.injEq,V.int.injEq,V.str.injEq,V.bool.injEq,V.sl.injEq,true_and,and_true] at h
 obtain ⟨h0,h1,h2,h3⟩:=h
 cases h0
 cases h1
 cases h2
 cases map_inj Gan.inj h3
 rfl
theorem Eff.inj {x y:Eff} (h:x.v=y.v):x=y:=by
 obtain ⟨x0,x1,x2,x3,x4,x5⟩:=x;obtain ⟨y0,y1,y2,y3,y4,y5⟩:=y
 simp only [Eff.v,V.agg.injEq,List.cons.injEq,V.int.injEq,V.str.injEq,V.bool.injEq,V.sl.injEq,true_and,and_true] at h
 obtain ⟨h0,h1,h2,h3,h4,h5⟩:=h
 cases h0
 cases h1
 cases map_inj Pt.inj h2
 cases h3
 cases h4
 cases h5
 rfl
theorem Sho.inj {x y:Sho} (h:x.v=y.v):x=y:=by
 obtain ⟨x0,x1,x2,x3,x4,x5,x6,x7,x8⟩:=x;obtain ⟨y0,y1,y2,y3,y4,y5,y6,y7,y8⟩:=y
 simp only [Sho.v,V.agg.injEq,List.cons.injEq,V.int.injEq,V.str.injEq,V.bool.injEq,V.sl.injEq,true_and,and_true] at h
 obtain ⟨h0,h1,h2,h3,h4,h5,h6,h7,h8⟩:=h
 cases h0
 cases map_inj (f:=Pt.vs) (fun h=>map_inj Pt.inj (V.sl.inj h)) h1
 cases map_inj Prof.inj h2
 cases map_inj Fixt.inj h3
 cases map_inj Grp.inj h4
 cases map_inj Pal.inj h5
 cases map_inj Lst.inj h6
 cases map_inj Sb.inj h7
 cases map_inj Eff.inj h8
 rfl
end Go.Proofs.YtanojbajfgcjeaaGreatDoor

namespace Go.Proofs.YtanojbajfgcjeaaGreatDoor
open Go.Sha
set_option maxRecDepth 100000
theorem Cu.Dk.ok {x:Cu} (h:x.Dk):x.ok:=⟨by have:=h.num;omega,by have:=h.label;omega,by have:=h.moves.1;omega,by have:=h.parts.1;omega,by have:=h.link;omega⟩
theorem Lst.Dk.ok {x:Lst} (h:x.Dk):x.ok:=⟨by have:=h.cues.1;omega,fun q hq=>(h.cues.2 q hq).ok⟩
theorem Prof.Dk.ok {x:Prof} (h:x.Dk):x.ok∧x.okR:=⟨⟨by have:=h.feats.1;omega,fun q hq=>by have:=(h.feats.2 q hq).wheel.1;omega,by have:=h.name;omega⟩,
 by have:=h.feats.1;omega,fun q hq=>⟨by have:=(h.feats.2 q hq).wheel.1;omega,fun z hz=>by have:=((h.feats.2 q hq).wheel.2 z hz).name;omega⟩,by have:=h.name;omega⟩
theorem Sho.Dk.ok {x : Sho} (h : x.Dk) : x.ok :=
  ⟨by have := h.title; omega, ⟨by have := h.curves.1; omega, fun q hq => by have := (h.curves.2 q hq).1; omega⟩, ⟨by have := h.profs.1; omega, fun q hq => (h.profs.2 q hq).ok.1, fun q hq => (h.profs.2 q hq).ok.2⟩,
   ⟨by have := h.fixts.1; omega, fun q hq => by have := (h.fixts.2 q hq).cable; omega⟩, ⟨by have := h.grps.1; omega, fun q hq => by have := (h.grps.2 q hq).chans.1; omega⟩, ⟨by have := h.pals.1; omega, fun q hq => by have := (h.pals.2 q hq).hues.1; omega⟩,
   ⟨by have := h.lsts.1; omega, fun q hq => (h.lsts.2 q hq).ok⟩, ⟨by have := h.subs.1; omega, fun q hq => by have := (h.subs.2 q hq).gains.1; omega⟩, ⟨by have := h.effs.1; omega, fun q hq => by have := (h.effs.2 q hq).wave.1; omega⟩⟩
end Go.Proofs.YtanojbajfgcjeaaGreatDoor

namespace Go.Proofs.YtanojbajfgcjeaaGreatDoor
open Go.ChangeShapes Go.WideShapes Go.ChangeAt Go.RowKit Go.Sha
theorem soundA:ESound Tryz.prog HA:=HA_ok HK_ok
theorem sk1:(laidOutB Tryz.prog)=true:=by kernel_rfl
theorem sk2:(mapsRowed Tryz.prog)=true:=by kernel_rfl
theorem sk6:(Tryz.prog.stops == [])=true:=by kernel_rfl
theorem sk8:(Tryz.prog.stopKnobs == [])=true:=by kernel_rfl
theorem sk22:(Rows.paperworkTablesRow.plainKeys == Tryz.prog.plainKeys)=true:=by kernel_rfl
theorem sk24:(Tryz.prog.stopsHeard)=true:=by kernel_rfl
theorem sk25:(Tryz.prog.mayEnter)=true:=by kernel_rfl
theorem sk26:(Rows.paperworkTablesRow.lifted == Tryz.prog.liftsFinal)=true:=by kernel_rfl
theorem sk27:(Tryz.prog.make == some Rows.paperworkTablesRow.make)=true:=by kernel_rfl
theorem sk15:(Rows.paperworkTablesRow.mapsOut == Tryz.prog.mapsAmong Tryz.f3.resultTypes.toList)=true:=by kernel_rfl
theorem sown:ownKnob Tryz.prog.godebug=none:=by kernel_rfl
theorem smain:Tryz.prog.mainIs=some (Rows.paperworkTablesCard.stood.harness.1,Rows.paperworkTablesCard.stood.harness.2.toList):=by kernel_rfl
theorem slooks:Rows.paperworkTablesCard.stood.looks=Tryz.prog.looks []:=by kernel_rfl
end Go.Proofs.YtanojbajfgcjeaaGreatDoor

