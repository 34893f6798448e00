/- Code as a tree. -/
import Derived.Test.YtmjkgajnpmiomaaGreatDoorLShbY
import Derived.Test.YtmjkgajnpmiomaaGreatDoorLShbDE
set_option linter.unusedSimpArgs false
set_option linter.unusedVariables false
namespace Go.Sha
inductive Cd where
 |skip
 |reg (l:List Ins)
 |dreg (m:Nat) (l:List Ins)
 |greg (U D:List Nat) (fs:List (List Bool)) (l:List Ins)
 |seq (a b:Cd)
 |join (lv:List Nat) (a b:Cd)
 |cond (c:Opd) (a b:Cd)
 |block (id:Nat) (a:Cd)
 |loop (lv:List Nat) (ow:List (Nat×Nat×Nat)) (a:Cd)
 |exit (lv:List Nat) (id:Nat)
 |ret (lv:List Nat)
 |frz (l:List Nat) (a:Cd)
 |bad
 deriving Inhabited
def unqS (l:List Ins):List Nat:=l.filterMap fun i=>match i.op,i.dst with
 | .call _ _,some d=>if l.any (fun j=>match j.op with
  | .append _ _ _ (.t s) _=>s == d
  |_=>false) then some d else none
 |_,_=>none
def uS (P:Program)(l:List Ins):List Nat:=unqS l++l.filterMap fun i=>match i.op,i.dst with
 | .call (.c (.fn (.func f) _ _)) _,some d=>if(P.funcs[f]?).any (fun fn=>fn.origin == "slices.Clone"||fn.origin == "slices.Insert") then some d else none
 |_,_=>none
def quiS (l:List Ins):List Nat:=l.filterMap fun i=>match i.op,i.dst with
 | .bslice _ _ _,some d=>if l.any (fun j=>match j.op with
  | .append _ _ _ _ (.t s)=>s == d
  |_=>false) then some d else none
 |_,_=>none
def gregC (U D:List Nat)(ops:List Oper)(l:List Ins):Option Cd:=if regOkG U D ops l=true then some (.greg U D (masks U D ops l) l) else none
def gregO (ops:List Oper)(l:List Ins):Option Cd:=if unqS l=[]∧regOkG [] [] ops l=true then gregC [] [] ops l else gregC (unqS l) (quiS l) ops l
def compC (P:Program)(N:Nat):Code→Option Cd
 | .skip=>some .skip
 | .region _ ops d=>match compAll P N ops ops.toList with
  |some l=>if guardsOk N l=true then
    if d then if uS P l≠[]∧regOkG (uS P l) (quiS l) ops.toList l=true then some (.greg (uS P l) (quiS l) (masks (uS P l) (quiS l) ops.toList l) l)
     else if regOk (l.takeWhile (·.op.quiet)).length ops.toList l=true then some (.dreg (l.takeWhile (·.op.quiet)).length l)
     else gregO ops.toList l
    else some (.reg l)
   else none
  |none=>none
 | .seq a b=>match compC P N a,compC P N b with
  |some x,some y=>some (.seq x y)
  |_,_=>none
 | .cond c a b=>match opdOf c,compC P N a,compC P N b with
  |some o,some x,some y=>some (.cond o x y)
  |_,_,_=>none
 | .block id a=>(compC P N a).map (.block id)
 | .loop a=>(compC P N a).map (.loop [] [])
 | .exit id=>some (.exit [] id)
 | .ret=>some (.ret [])
 | .refuse _=>some .bad
 |_=>none
def Cd.bare:Cd→Cd
 | .seq a b=>.seq a.bare b.bare
 | .join _ a b=>.seq a.bare b.bare
 | .cond c a b=>.cond c a.bare b.bare
 | .block id a=>.block id a.bare
 | .loop _ _ a=>.loop [] [] a.bare
 | .exit _ id=>.exit [] id
 | .ret _=>.ret []
 | .frz _ a=>a.bare
 |c=>c
def insL (x:Nat):List Nat→List Nat
 |[]=>[x]
 |y::r=>if x<y then x::y::r else if x=y then y::r else y::insL x r
def lvI (i:Ins)(out:List Nat):List Nat:=i.slots.foldr insL (match i.dst with
 |some d=>out.filter (· != d)
 |none=>out)
def Cd.lv:Cd→List (Nat×List Nat)→List Nat→List Nat→List Nat
 | .reg l,_,_,out | .dreg _ l,_,_,out | .greg _ _ _ l,_,_,out=>l.foldr lvI out
 | .seq a b,ex,rt,out | .join _ a b,ex,rt,out=>a.lv ex rt (b.lv ex rt out)
 | .cond c a b,ex,rt,out=>c.slots.foldr insL ((a.lv ex rt out).foldr insL (b.lv ex rt out))
 | .block id a,ex,rt,out=>a.lv ((id,out)::ex) rt out
 | .loop _ _ a,ex,rt,_=>a.lv ex rt []
 | .exit _ id,ex,_,_=>(look ex id).getD []
 | .ret _,_,rt,_=>rt
 |_,_,_,out=>out
def rootL (l:List Ins):Nat→Nat→Nat
 |0,s=>s
 |n+1,s=>match l.find? (fun i=>i.dst == some s) with
  |some ⟨_,.mv (.t k),_⟩=>rootL l n k
  |_=>s
def ownG:List Ins→List Ins→List (Nat×Nat×Nat)
 |_,[]=>[]
 |pre,i::r=>(match i.op with
  | .append e es _ (.t s) _=>[(rootL pre 3 s,e,es)]
  | .act (.appstr e _) (.t s::_)=>[(rootL pre 3 s,e,1)]
  |_=>[])++ownG (i::pre) r
def ownI (l:List Ins):List (Nat×Nat×Nat):=ownG [] l
def Cd.own:Cd→List (Nat×Nat×Nat)
 | .reg l | .dreg _ l | .greg _ _ _ l=>ownI l
 | .seq a b | .join _ a b=>a.own++b.own
 | .cond _ a b=>a.own++b.own
 | .block _ a=>a.own
 | .loop _ _ a=>a.own
 |_=>[]
def Cd.inss:Cd→List Ins
 | .reg l | .dreg _ l | .greg _ _ _ l=>l
 | .seq a b | .join _ a b | .cond _ a b=>a.inss++b.inss
 | .block _ a | .loop _ _ a | .frz _ a=>a.inss
 |_=>[]
def ptsS (D:List Nat)(i:Ins):List Nat:=match i.op,i.dst with
 | .fadr _ (.t a),some d | .mv (.t a),some d | .iadr _ (.t a) _,some d=>if D.contains a then d::D else D
 |_,_=>D
def wrS (l:List Ins)(t:Nat):Bool :=
 let D:=l.foldl ptsS [t]
 l.any fun i=>match i.op with
  | .store _ (.t a) _=>D.contains a
  |_=>false
def markS (l:List Ins)(x:Nat×Nat×Nat):Nat×Nat×Nat:=if wrS l x.1=true then(x.1,x.2.1,x.2.2+4096) else x
def insO (lv:List Nat)(x:Nat×Nat×Nat)(l:List (Nat×Nat×Nat)):List (Nat×Nat×Nat) :=
 if lv.elem x.1&&!(l.any fun y=>y.1 == x.1) then x::l else l
def Cd.straight:Cd→Bool
 | .reg l=>l.all fun i=>i.g.isNone
 | .dreg _ l=>l.all fun i=>i.g.isNone
 | .skip | .ret _ | .exit _ _=>true
 |_=>false
def Cd.ann:Cd→List (Nat×List Nat)→List Nat→List Nat→Cd
 | .seq a b,ex,rt,out | .join _ a b,ex,rt,out=>let h:=b.lv ex rt out;if a.straight then .seq (a.ann ex rt h) (b.ann ex rt out) else .join h (a.ann ex rt h) (b.ann ex rt out)
 | .cond c a b,ex,rt,out=>.cond c (a.ann ex rt out) (b.ann ex rt out)
 | .block id a,ex,rt,out=>.block id (a.ann ((id,out)::ex) rt out)
 | .loop _ _ a,ex,rt,_=>let h:=a.lv ex rt [];.loop h ((a.own.foldr (insO h) []).map (markS a.inss)) (a.ann ex rt h)
 | .exit _ id,ex,_,_=>.exit ((look ex id).getD []) id
 | .ret _,_,rt,_=>.ret rt
 | .frz l a,ex,rt,out=>.frz l (a.ann ex rt out)
 |c,_,_,_=>c
theorem Cd.ann_bare:∀(c:Cd) (ex:List (Nat×List Nat)) (rt out:List Nat),(c.ann ex rt out).bare=c.bare
 | .seq a b,ex,rt,out=>by simp only[ann];split<;>simp only[bare,ann_bare a,ann_bare b]
 | .join _ a b,ex,rt,out=>by simp only[ann];split<;>simp only[bare,ann_bare a,ann_bare b]
 | .cond c a b,ex,rt,out=>by simp only[ann,bare,ann_bare a,ann_bare b]
 | .block id a,ex,rt,out=>by simp only[ann,bare,ann_bare a]
 | .loop x y a,ex,rt,out=>by simp only[ann,bare,ann_bare a]
 | .frz l a,ex,rt,out=>by simp only[ann,bare,ann_bare a]
 | .skip,_,_,_ | .reg _,_,_,_ | .dreg _ _,_,_,_ | .greg _ _ _ _,_,_,_ | .exit _ _,_,_,_ | .ret _,_,_,_ | .bad,_,_,_=>rfl
theorem compC_bare {P:Program}{N:Nat}:∀{c:Code}{cd:Cd},compC P N c=some cd→cd.bare=cd:=by
 intro c
 induction c<;>intro cd h<;>simp only[compC,gregO,gregC]at h<;>(repeat' split at h)<;>first
  |(cases h;done)
  |(cases h;rfl)
  |(cases h;simp only[Cd.bare];simp_all;done)
  |(obtain⟨y,hy,e⟩:=Option.map_eq_some_iff.1 h;cases e;simp only[Cd.bare];simp_all;done)
def ptsI (D:List Nat)(i:Ins):List Nat:=match i.op,i.dst with
 | .fadr _ (.t a),some d | .mv (.t a),some d | .iadra _ _ (.t a) _,some d=>if D.contains a then d::D else D
 |_,_=>D
def inD (D:List Nat):Opd→Bool
 | .t a=>D.contains a
 |_=>false
def wrN (D:List Nat)(l:List Ins):Nat:=l.countP fun i=>match i.op with
 | .store _ a _=>inD D a
 |_=>false
def newD (i:Ins):Bool:=match i.op with
 | .alloc _ _ | .box _ _=>true
 |_=>false
def cleanF (P:Program):Fn→Bool
 | .func h=>match P.funcs[h]? with
  |some fn=>match fn.body with
   |some c=>match compC P fn.ntmps c with
    |some T=>let D:=T.inss.foldl (fun D i=>if newD i then(i.dst.toList++D) else ptsI D i) []
     T.inss.all fun i=>match i.op with
      | .store _ a _=>inD D a
      |_=>true
    |none=>false
   |none=>false
  |none=>false
 |_=>false
def frzOk (P:Program)(all l:List Ins)(t:Nat):Bool :=
 let D:=all.foldl ptsI [t]
 wrN D all == wrN D l&&all.all fun i=>match i.op with
  | .store _ _ x=>!inD D x
  | .call (.c (.fn f _ _)) xs=>!xs.any (inD D)||cleanF P f
  | .call _ xs=>!xs.any (inD D)
  | .mkfn f a b=>!(a++b).any (inD D)||cleanF P f
  |_=>true
def Cd.rg:Cd→List Ins
 | .reg l | .dreg _ l | .greg _ _ _ l=>l
 |_=>[]
def frzN:List Nat→Cd→Cd
 |[],c=>c
 |ts,c=>.frz ts c
def Cd.fz (p:List Ins→List Nat):Cd→Cd
 | .seq a b=>.seq (a.fz p) (frzN (p a.rg) (b.fz p))
 | .join lv a b=>.join lv (a.fz p) (frzN ((p a.rg).filter lv.contains) (b.fz p))
 | .cond c a b=>.cond c (a.fz p) (b.fz p)
 | .block id a=>.block id (a.fz p)
 | .loop lv ow a=>.loop lv ow (a.fz p)
 |c=>c
theorem frzN_bare {l:List Nat}{c:Cd}:(frzN l c).bare=c.bare:=by cases l<;>rfl
theorem Cd.fz_bare {p:List Ins→List Nat}:∀(c:Cd),(c.fz p).bare=c.bare
 | .seq a b=>by simp only[fz,bare,frzN_bare,fz_bare a,fz_bare b]
 | .join _ a b=>by simp only[fz,bare,frzN_bare,fz_bare a,fz_bare b]
 | .cond _ a b=>by simp only[fz,bare,fz_bare a,fz_bare b]
 | .block _ a=>by simp only[fz,bare,fz_bare a]
 | .loop _ _ a=>by simp only[fz,bare,fz_bare a]
 | .skip | .reg _ | .dreg _ _ | .greg _ _ _ _ | .exit _ _ | .ret _ | .frz _ _ | .bad=>rfl
def Res.slot:Res→Nat
 | .tmp t=>t
 | .cell t _=>t
structure Fx where
 N:Nat
 res:List Res
 c:Cd
def compF (P:Program)(f:FuncId):Option Fx :=
 match P.funcs[f]? with
 |some fn=>match fn.body with
  |some c=>match resB P fn.results.toList,compC P fn.ntmps c with
   |some r,some T=>if(fn.name == "runtime.NumGoroutine")=false then some ⟨fn.ntmps,r,(T.ann [] (r.map (·.slot)) (r.map (·.slot))).fz fun l=>(l.filter newD).filterMap (·.dst) |>.filter (frzOk P T.inss l)⟩ else none
   |_,_=>none
  |none=>none
 |none=>none
abbrev Rt:=Option (VRes×St)
abbrev Rc:=Option (VX×Env×St)
structure EvF where
 raw:List FuncId
 ev:FuncId→List V→St→Rt
instance:CoeFun EvF (fun _=>FuncId→List V→St→Rt):=⟨EvF.ev⟩
def seqR (k:Env→St→Rc):Rc→Rc
 |some (.normal,e,s)=>k e s
 |r=>r
def blockR (id:Nat):Rc→Rc
 |some (.exit id',e,s)=>if id'=id then some (.normal,e,s) else some (.exit id',e,s)
 |r=>r
def condR (a b:Rc):V→Rc
 | .bool t=>if t=true then a else b
 |_=>none
def guardR (a b:Rc):Option Bool→Rc
 |some t=>if t=true then a else b
 |none=>none
def bindR (k:V→St→Rc):Option (V×St)→Rc
 |some (v,s)=>k v s
 |none=>none
def bindQ (k:V→Rc):Option V→Rc
 |some v=>k v
 |none=>none
def callR (k p:V→St→Rc):Rt→Rc
 |some (.ret v,s)=>k v s
 |some (.pan v,s)=>p v s
 |none=>none
def quietR (st:St)(k:V→Rc):Rt→Rc
 |some (.ret v,s)=>if s.eqv st then k v else none
 |_=>none
def snapL (st:St)(l:List V):List V:=l.map fun v=>(snapA st v).getD v
def memL (k:FuncId):List FuncId→Bool
 |[]=>false
 |x::l=>if x=k then true else memL k l
def snapQ (b:Bool)(st:St)(l:List V):List V:=match b with
 |true=>l
 |false=>snapL st l
def callE (E:EvF)(st:St)(args:List V):V→Rt
 | .fn (.func k) a b=>E k (snapQ (memL k E.raw) st (a++args++b)) st
 |_=>none
def panE (env:Env)(st:St):V→Rc
 | .iface t v=>some (.pan (.iface t v),env,st)
 |_=>none
def nilE (st:St)(k:Bool→Rc):V→Rc
 | .nils=>k true
 | .sl (_::_)=>k false
 | .clip (_::_)=>k false
 | .osl id (n+1)=>match look st.arr id with
  |some a=>if a.xs.length=n+1 then k false else none
  |none=>none
 |_=>none
def insE (E:EvF)(env:Env)(st:St)(k:V→St→Rc):SOp→Rc
 | .call f args=>callR k (fun v s=>some (.pan v,env,s)) (callE E st (args.map (·.get env)) (f.get env))
 | .panic x=>panE env st (x.get env)
 | .nilk ne x=>nilE st (fun b=>k (.bool (b != ne)) st) (x.get env)
 |op=>bindR k (stv op env st)
def gd (A B:Env→Rc)(j:Nat)(b:Bool)(env:Env):Option V→Rc
 |some (.bool t)=>if t=true then(if b then A else B) ((j,.bool true)::env) else(if b then B else A) ((j,.bool false)::env)
 |some (.tup [])=>B env
 |_=>none
def evOps (E:EvF):List Ins→Env→St→Rc
 |[],env,st=>some (.normal,env,st)
 |⟨d,op,none⟩::r,env,st=>insE E env st (fun v s=>evOps E r (setD env d v) s) op
 |⟨d,op,some (j,b)⟩::r,env,st=>gd (fun env=>insE E env st (fun v s=>evOps E r (setD env d v) s) op) (fun env=>evOps E r (setD env d (.tup [])) st) j b env (look env j)
def evOne (E:EvF)(i:Ins)(env:Env)(st:St)(k:Env→St→Rc):Rc:=guardR (insE E env st (fun v s=>k (setD env i.dst v) s) i.op) (k (setD env i.dst (.tup [])) st) (wantV env i.g)
noncomputable def insQ (E:EvF)(env:Env)(st:St)(k:V→Rc):SOp→Rc
 | .call f args=>quietR st k (callE E st (args.map (·.get env)) (f.get env))
 |op=>bindQ k (evq op env st)
noncomputable def evQ (E:EvF)(k:List V→Env→Rc):List Ins→Env→St→List V→Rc
 |[],env,_,acc=>k acc.reverse env
 |⟨d,op,none⟩::r,env,st,acc=>insQ E env st (fun v=>evQ E k r (setD env d v) st (v::acc)) op
 |⟨d,op,some (j,b)⟩::r,env,st,acc=>gd (fun env=>insQ E env st (fun v=>evQ E k r (setD env d v) st (v::acc)) op) (fun env=>evQ E k r (setD env d (.tup [])) st (.tup []::acc)) j b env (look env j)
noncomputable def evQ1 (E:EvF)(i:Ins)(env:Env)(st:St)(k:Env→Rc):Rc:=guardR (insQ E env st (fun v=>k (setD env i.dst v)) i.op) (k (setD env i.dst (.tup []))) (wantV env i.g)
noncomputable def sameO (o:Option V)(v:V)(k:Rc):Rc:=if o=some v then k else none
noncomputable def sameE (d:Option Nat)(v:V)(env:Env)(k:Rc):Rc:=match d with
 |none=>k
 |some s=>sameO (look env s) v k
noncomputable def reE (E:EvF)(st:St)(k:Rc):List Ran→Rc
 |[]=>k
 |x::r=>evQ1 E x.1 x.2.1 st (fun env'=>sameE x.1.dst x.2.2 env' (reE E st k r))
noncomputable def lateE (E:EvF)(i:Ins)(env:Env)(v:V)(k:Rc):List St→Rc
 |[]=>k
 |s::r=>evQ1 E i env s (fun env'=>sameE i.dst v env' (lateE E i env v k r))
def normR (k:Env→St→Rc):Rc→Rc
 |some (.normal,e,s)=>k e s
 |_=>none
noncomputable def evG (E:EvF)(U D:List Nat):List Ins→List (List Bool)→Env→St→List Ran→List St→Rc
 |[],_,env,st,_,_=>some (.normal,env,st)
 |i::r,fs,env,st,h,hs=>if i.qt U D=true then
   evQ1 E i env st (fun env'=>lateE E i env (valD i.dst env') (evG E U D r fs.tail env' st ((i,env,valD i.dst env')::h) hs) (hs.take (fs.headD []).length))
  else normR (fun env' st'=>reE E st' (evG E U D r fs.tail env' st' ((i,env,valD i.dst env')::h) (st::hs)) (picks (fs.headD []) h)) (evOne E i env st (fun e s=>some (.normal,e,s)))
def restr (lv:List Nat)(env:Env):Env:=lv.map fun k=>(k,(look env k).getD .und)
def belowL {α:Type}(n:Nat)(bd:α→Bool):List (Nat×α)→Bool
 |[]=>true
 |(id,x)::r=>(if id<n then bd x else true)&&belowL n bd r
def keepL {α:Type}(n:Nat):List (Nat×α)→List (Nat×α)
 |[]=>[]
 |(id,x)::r=>if id<n then(id,x)::keepL n r else keepL n r
def cutS (n:Nat)(st:St):St:=⟨n,keepL n st.mem,keepL n st.arr,⟨keepL n st.x.obj,st.x.gl,keepL n st.x.ty⟩⟩
def cutB (n:Nat)(st:St):Bool:=decide (n≤st.nx)&&belowL n (V.bdL n) st.mem&&belowL n (fun a=>V.bdL n a.xs) st.arr&&belowL n (Ob.bd n) st.x.obj
def envB (n:Nat)(env:Env):Bool:=env.all fun p=>p.2.bd n
def headS (n:Nat)(env:Env)(st:St):St:=if st.nx=n then st else if(envB n env&&cutB n st)=true then cutS n st else st
def ownR (k:Env→St→Rc):List (Nat×Nat×Nat)→Env→St→Rc
 |[],env,st=>k env st
 |(t,e,es)::r,env,st=>match look env t with
  |some .nils=>if 4096≤es then ownR k r ((t,.osl st.nx 0)::env) ⟨st.nx+1,st.mem,(st.nx,⟨e,es-4096,[],true,false⟩)::st.arr,st.x⟩
   else ownR k r ((t,.osl st.nx 0)::env) ⟨st.nx+1,st.mem,(st.nx,⟨e,es,[],false,false⟩)::st.arr,st.x⟩
  |_=>ownR k r env st
def frzR (k:Env→St→Rc):List Nat→Env→St→Rc
 |[],env,st=>k env st
 |t::r,env,st=>match look env t with
  |some (.ptr id 0)=>match look st.mem id with
   |some cs=>frzR k r ((t,.ep (.agg cs) 0)::env) ⟨st.nx,dropM id st.mem,st.arr,st.x⟩
   |none=>frzR k r env st
  |_=>frzR k r env st
def restR (lv:List Nat):Rc→Rc
 |some (.normal,e,s)=>some (.normal,restr lv e,s)
 |r=>r
def cutR (n:Nat):Rc→Rc
 |some (.exit id,e,s)=>some (.exit id,e,headS n e s)
 |some (.ret,e,s)=>some (.ret,e,headS n e s)
 |r=>r
def evL (f:Env→St→Rc)(lv:List Nat)(nx:Nat):Nat→Env→St→Rc
 |0,_,_=>none
 |n+1,env,st=>seqR (fun e s=>evL f lv nx n (restr lv e) (headS nx (restr lv e) s)) (cutR nx (f env st))
noncomputable def evC (E:EvF):Nat→Cd→Env→St→Rc
 |0,_,_,_=>none
 |_+1,.skip,env,st=>some (.normal,env,st)
 |_+1,.exit lv id,env,st=>some (.exit id,restr lv env,st)
 |_+1,.ret lv,env,st=>some (.ret,restr lv env,st)
 |_+1,.reg l,env,st=>evOps E l env st
 |_+1,.dreg m l,env,st=>evQ E (fun _ env'=>evOps E (l.drop m) env' st) (l.take m) env st []
 |_+1,.greg U D fs l,env,st=>evG E U D l fs env st [] []
 |n+1,.seq a b,env,st=>seqR (evC E n b) (evC E n a env st)
 |n+1,.join lv a b,env,st=>seqR (evC E n b) (restR lv (evC E n a env st))
 |n+1,.cond o a b,env,st=>condR (evC E n a env st) (evC E n b env st) (o.get env)
 |n+1,.block id a,env,st=>blockR id (evC E n a env st)
 |n+1,.loop lv ow a,env,st=>ownR (fun e s=>evL (evC E n a) lv s.nx n (restr lv e) s) ow env st
 |n+1,.frz l a,env,st=>frzR (evC E n a) l env st
 |_+1,.bad,_,_=>none
def shutN (id n l h es:Nat):Option Arr→V
 |some a=>if a.xs.length=n∧a.es=es∧l≤h∧h≤n then .sl ((a.xs.take h).drop l) else .win id n l h es
 |none=>.win id n l h es
def shut1 (st:St):V→V
 | .win id n l h es=>shutN id n l h es (look st.arr id)
 | .osl id n=>match look st.arr id with
  |some a=>if a.xs.length=n then .sl a.xs else .osl id n
  |none=>.osl id n
 | .mp id=>match look st.x.obj id with
  |some (.map es)=>.mpc (es.map (·.1)) (es.map (·.2))
  |_=>.mp id
 | .nils=>.sl []
 | .clip xs=>.sl xs
 |v=>v
def shutA (st:St):V→V
 | .agg cs=>.agg (cs.map (shut1 st))
 |v=>shut1 st v
def shutV (st:St):V→V
 | .tup vs=>.tup (vs.map (shutA st))
 |v=>shutA st v
def rawO (s:St):Option (List V)→Rt
 |some vs=>some (.ret (resOne vs),s)
 |none=>none
def rawE (res:List Res):Rc→Rt
 |some (.normal,env,s)=>rawO s (resV env s res)
 |some (.ret,env,s)=>rawO s (resV env s res)
 |some (.pan v,_,s)=>some (.pan v,s)
 |_=>none
def guardT (a:Rt):Bool→Rt
 |true=>a
 |false=>none
def shutR (st:St):Rt→Rt
 |some (.ret v,s)=>guardT (some (.ret (shutV s v),st)) ((shutV s v).bd 0)
 |some (.pan v,s)=>guardT (some (.pan (shutV s v),st)) ((shutV s v).bd 0)
 |none=>none
def openR (n:Nat):Rt→Rt
 |some (.ret v,s)=>some (.ret ((snapV s v).getD v),headS n [(0,(snapV s v).getD v)] s)
 |some (.pan v,s)=>some (.pan v,headS n [(0,v)] s)
 |none=>none
def stG (gl:List (Nat×Obj)):St:=⟨0,[],[],⟨[],gl,[]⟩⟩
def endF (F:Fx)(args:List V)(st:St)(f:Env→St→Rc):Rt :=
 if args.length≤F.N then if V.bdL 0 args=true then shutR st (rawE F.res (f (argEnv 0 args) (stG st.x.gl))) else openR st.nx (rawE F.res (f (argEnv 0 args) st)) else none
open Classical in
noncomputable def lub {β:Type}(f:Nat→Option β):Option β:=if h:∃n b,f n=some b then f (Classical.choose h) else none
noncomputable def evD (E:EvF)(c:Cd)(env:Env)(st:St):Rc:=lub fun n=>evC E n c env st
noncomputable def evF (P:Program)(H:EvF):Nat→EvF
 |0=>⟨H.raw,fun _ _ _=>none⟩
 |n+1=>⟨H.raw,fun f args st=>match H f args st with
  |some r=>some r
  |none=>match compF P f with
   |some F=>endF F args st (evD (evF P H n) F.c)
   |none=>none⟩
noncomputable def run (P:Program)(H:EvF):EvF:=⟨H.raw,fun f args st=>lub fun n=>evF P H n f args st⟩
noncomputable def runC (P:Program)(H:EvF)(c:Cd)(env:Env)(st:St):Rc:=evD (run P H) c env st
noncomputable def runL (P:Program)(H:EvF)(lv:List Nat)(nx:Nat)(c:Cd)(env:Env)(st:St):Rc:=lub fun n=>evL (evC (run P H) n c) lv nx n env st
theorem lub_some {β:Type}{f:Nat→Option β}{r:β}(h:lub f=some r):∃n,f n=some r:=by
 unfold lub at h
 split at h
 ·exact⟨_,h⟩
 ·cases h
end Go.Sha
