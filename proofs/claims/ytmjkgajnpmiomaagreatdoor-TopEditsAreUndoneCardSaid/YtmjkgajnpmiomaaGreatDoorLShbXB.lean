/- The evaluator's rules. -/
import Derived.Test.YtmjkgajnpmiomaaGreatDoorLShbXA
set_option linter.unusedSimpArgs false
set_option linter.unusedVariables false
namespace Go.Sha
section
variable {P:Program}{H E:EvF}{env:Env}{st:St}{K p:V→St→Rc}{k:V→Rc}
class Hld (α:Type) where
 get:α
def kh {α:Type}[h:Hld α]:α:=h.get
theorem kh_1 {α β:Type}{f:α→β}{a:α}:@kh (α→β) ⟨f⟩ a=f a:=idq rfl
theorem kh_2 {α β γ:Type}{f:α→β→γ}{a:α}{b:β}:@kh (α→β→γ) ⟨f⟩ a b=f a b:=idq rfl
attribute [push_cast] kh_1 kh_2
def bindE (st:St)(k:V→St→Rc):Option V→Rc
 |some v=>k v st
 |none=>none
theorem bindE_of {o:Option V}:bindR K (o.map fun v=>(v,st))=bindE st K o:=by cases o<;>rfl
def boxV (st:St)(x:V):Option (V×St):=if partOk st x=true then some (.ptr st.nx 0,⟨st.nx+1,(st.nx,x.cells)::st.mem,st.arr,st.x⟩) else none
def cvsbV (e:TypeId)(v:V)(st:St):Option (V×St):=match v with
 | .str s=>if s.length≤maxLen then some (newArr st e 1 (s.map fun b=>.int .u8 b.toNat) true true) else none
 |_=>none
def bsliceV (e es:Nat)(xs:List V)(st:St):Option (V×St):=match mapO (snapA st) xs with
 |some ys=>if ys.all (fun y=>partOk st y&&y.cells.length == es)=true then some (newArr st e es ys false false) else none
 |none=>none
def mksliceV (e es bytes:Nat)(b:Bool)(z:List V)(l c:V)(st:St):Option (V×St):=match natV l,natV c,elemZ b z with
 |some l,some c,some y=>if l≤c∧roomV c bytes=true∧y.cells.length=es then some (newArr st e es (List.replicate l y) true false) else none
 |_,_,_=>none
theorem iE_gen (g:Gen)(xs:List Opd):insE E env st K (.gen g xs)=bindE st K (genV g (xs.map (·.get env))):=by simp only[insE];exact bindE_of
theorem iE_mv (x:Opd):insE E env st K (.mv x)=K (x.get env) st:=idq rfl
theorem iQ_mv (x:Opd):insQ E env st k (.mv x)=k (x.get env):=idq rfl
theorem iE_pick (c a b:Opd):insE E env st K (.pick c a b)=bindE st K (pickV (c.get env) (a.get env) (b.get env)):=by simp only[insE];exact bindE_of
theorem iQ_pick (c a b:Opd):insQ E env st k (.pick c a b)=bindQ k (pickV (c.get env) (a.get env) (b.get env)):=idq rfl
theorem iE_build (z:List V)(ps:List (Nat×Nat×Opd)):insE E env st K (.build z ps)=bindE st K ((fillV st z (ps.map fun p=>(p.1,p.2.1,p.2.2.get env))).map .agg):=by simp only[insE];exact bindE_of
theorem iQ_build (z:List V)(ps:List (Nat×Nat×Opd)):insQ E env st k (.build z ps)=bindQ k ((fillV st z (ps.map fun p=>(p.1,p.2.1,p.2.2.get env))).map .agg):=idq rfl
theorem iE_load (n:Option Nat)(x:Opd):insE E env st K (.load n x)=bindE st K (loadV st n (x.get env)):=by simp only[insE];exact bindE_of
theorem iQ_load (n:Option Nat)(x:Opd):insQ E env st k (.load n x)=bindQ k (loadV st n (x.get env)):=idq rfl
theorem iE_nilc (x:Opd):insE E env st K (.nilc x)=bindE st K (nilcV (x.get env)):=by simp only[insE];exact bindE_of
theorem iQ_nilc (x:Opd):insQ E env st k (.nilc x)=bindQ k (nilcV (x.get env)):=idq rfl
theorem iE_bin (o:BinOp)(x y:Opd):insE E env st K (.bin o x y)=bindE st K (binV o (x.get env) (y.get env)):=by simp only[insE];exact bindE_of
theorem iQ_bin (o:BinOp)(x y:Opd):insQ E env st k (.bin o x y)=bindQ k (binV o (x.get env) (y.get env)):=idq rfl
theorem iE_eqb (ne:Bool)(x y:Opd):insE E env st K (.eqb ne x y)=bindE st K (eqbV ne (x.get env) (y.get env)):=by simp only[insE];exact bindE_of
theorem iE_eqs (ne:Bool)(ks:List Kd)(x y:Opd):insE E env st K (.eqs ne ks x y)=bindE st K (eqsV ne ks (x.get env) (y.get env)):=by simp only[insE];exact bindE_of
theorem iQ_eqs (ne:Bool)(ks:List Kd)(x y:Opd):insQ E env st k (.eqs ne ks x y)=bindQ k (eqsV ne ks (x.get env) (y.get env)):=idq rfl
theorem iE_un (o:UnOp)(x:Opd):insE E env st K (.un o x)=bindE st K (unV o (x.get env)):=by simp only[insE];exact bindE_of
theorem iQ_un (o:UnOp)(x:Opd):insQ E env st k (.un o x)=bindQ k (unV o (x.get env)):=idq rfl
theorem iE_fadr (n:Nat)(x:Opd):insE E env st K (.fadr n x)=bindE st K (fadrV st n (x.get env)):=by simp only[insE];exact bindE_of
theorem iQ_fadr (n:Nat)(x:Opd):insQ E env st k (.fadr n x)=bindQ k (fadrV st n (x.get env)):=idq rfl
theorem iE_fld (n:Option Nat)(o:Nat)(x:Opd):insE E env st K (.fld n o x)=bindE st K (fldV n o (x.get env)):=by simp only[insE];exact bindE_of
theorem iE_iadr (es:Nat)(x i:Opd):insE E env st K (.iadr es x i)=bindE st K (iadrV st es (x.get env) (i.get env)):=by simp only[insE];exact bindE_of
theorem iQ_iadr (es:Nat)(x i:Opd):insQ E env st k (.iadr es x i)=bindQ k (iadrV st es (x.get env) (i.get env)):=idq rfl
theorem iE_iadra (len es:Nat)(x i:Opd):insE E env st K (.iadra len es x i)=bindE st K (iadraV len es (x.get env) (i.get env)):=by simp only[insE];exact bindE_of
theorem iE_ichr (x i:Opd):insE E env st K (.ichr x i)=bindE st K (ichrV (x.get env) (i.get env)):=by simp only[insE];exact bindE_of
theorem iE_slices (x:Opd)(lo hi:Option Opd):insE E env st K (.slices x lo hi)=bindE st K (sliceStr (x.get env) (lo.map (·.get env)) (hi.map (·.get env))):=by simp only[insE];exact bindE_of
theorem iQ_slices (x:Opd)(lo hi:Option Opd):insQ E env st k (.slices x lo hi)=bindQ k (sliceStr (x.get env) (lo.map (·.get env)) (hi.map (·.get env))):=idq rfl
theorem iE_slice (es:Nat)(x:Opd)(lo hi mx:Option Opd):insE E env st K (.slice es x lo hi mx)=bindE st K (sliceV st es (x.get env) (lo.map (·.get env)) (hi.map (·.get env)) (mx.map (·.get env))):=by simp only[insE];exact bindE_of
theorem iQ_slice (es:Nat)(x:Opd)(lo hi mx:Option Opd):insQ E env st k (.slice es x lo hi mx)=bindQ k (sliceV st es (x.get env) (lo.map (·.get env)) (hi.map (·.get env)) (mx.map (·.get env))):=idq rfl
theorem iE_ext (i:Nat)(x:Opd):insE E env st K (.ext i x)=bindE st K (extV i (x.get env)):=by simp only[insE];exact bindE_of
theorem iQ_ext (i:Nat)(x:Opd):insQ E env st k (.ext i x)=bindQ k (extV i (x.get env)):=idq rfl
theorem iE_lens (x:Opd):insE E env st K (.lens x)=bindE st K (lensV (x.get env)):=by simp only[insE];exact bindE_of
theorem iQ_lens (x:Opd):insQ E env st k (.lens x)=bindQ k (lensV (x.get env)):=idq rfl
theorem iE_len (x:Opd):insE E env st K (.len x)=bindE st K (lenV st (x.get env)):=by simp only[insE];exact bindE_of
theorem iQ_len (x:Opd):insQ E env st k (.len x)=bindQ k (lenV st (x.get env)):=idq rfl
theorem iE_mkfn (f:Fn)(a b:List Opd):insE E env st K (.mkfn f a b)=K (.fn f (a.map (·.get env)) (b.map (·.get env))) st:=idq rfl
theorem iE_cvi (q:IntKind)(x:Opd):insE E env st K (.cvi q x)=bindE st K (cviV q (x.get env)):=by simp only[insE];exact bindE_of
theorem iE_act (g:ActK)(xs:List Opd):insE E env st K (.act g xs)=bindR K (actV g (xs.map (·.get env)) st):=idq rfl
theorem iE_alloc (T:TypeId)(z:List V):insE E env st K (.alloc T z)=K (.ptr st.nx 0) ⟨st.nx+1,(st.nx,z)::st.mem,st.arr,st.x⟩:=idq rfl
theorem iE_box (T:TypeId)(x:Opd):insE E env st K (.box T x)=bindR K (boxV st (x.get env)):=idq rfl
theorem iE_store (n:Nat)(a x:Opd):insE E env st K (.store n a x)=bindR K ((storeV st n (a.get env) (x.get env)).map fun s=>(.und,s)):=idq rfl
theorem iE_append (e es b:Nat)(s x:Opd):insE E env st K (.append e es b s x)=bindR K (appendV st e es b (s.get env) (x.get env)):=idq rfl
theorem iE_bslice (e es:Nat)(xs:List Opd):insE E env st K (.bslice e es xs)=bindR K (bsliceV e es (xs.map (·.get env)) st):=idq rfl
theorem iE_cvsb (e:TypeId)(x:Opd):insE E env st K (.cvsb e x)=bindR K (cvsbV e (x.get env) st):=idq rfl
attribute [push_cast] iE_gen iE_mv iQ_mv iE_pick iQ_pick iE_build iQ_build iE_load iQ_load iE_nilc iQ_nilc iE_bin iQ_bin iE_eqb iE_eqs iQ_eqs iE_un iQ_un iE_fadr iQ_fadr iE_fld iE_iadr iQ_iadr iE_iadra iE_ichr iE_slices iQ_slices iE_slice iQ_slice iE_ext iQ_ext iE_lens iQ_lens iE_len iQ_len iE_mkfn iE_cvi iE_act iE_alloc iE_box iE_store iE_append iE_bslice iE_cvsb
theorem seqR_n {f:Env→St→Rc}{e:Env}{s:St}:seqR f (some (.normal,e,s))=f e s:=idq rfl
theorem seqR_x {f:Env→St→Rc}{i:Nat}{e:Env}{s:St}:seqR f (some (.exit i,e,s))=some (.exit i,e,s):=idq rfl
theorem seqR_r {f:Env→St→Rc}{e:Env}{s:St}:seqR f (some (.ret,e,s))=some (.ret,e,s):=idq rfl
theorem seqR_i {f:Env→St→Rc}{c:Prop}[Decidable c]{a b:Rc}:seqR f (if c then a else b)=if c then seqR f a else seqR f b:=by split<;>rfl
theorem cutR_n {i:Nat}{e:Env}{s:St}:cutR i (some (.normal,e,s))=some (.normal,e,s):=idq rfl
theorem cutR_x {i j:Nat}{e:Env}{s:St}:cutR i (some (.exit j,e,s))=some (.exit j,e,headS i e s):=idq rfl
theorem cutR_r {i:Nat}{e:Env}{s:St}:cutR i (some (.ret,e,s))=some (.ret,e,headS i e s):=idq rfl
theorem cutR_i {i:Nat}{c:Prop}[Decidable c]{a b:Rc}:cutR i (if c then a else b)=if c then cutR i a else cutR i b:=by split<;>rfl
theorem blockR_n {i:Nat}{e:Env}{s:St}:blockR i (some (.normal,e,s))=some (.normal,e,s):=idq rfl
theorem blockR_x {i j:Nat}{e:Env}{s:St}:blockR i (some (.exit j,e,s))=if j=i then some (.normal,e,s) else some (.exit j,e,s):=idq rfl
theorem blockR_r {i:Nat}{e:Env}{s:St}:blockR i (some (.ret,e,s))=some (.ret,e,s):=idq rfl
theorem blockR_i {i:Nat}{c:Prop}[Decidable c]{a b:Rc}:blockR i (if c then a else b)=if c then blockR i a else blockR i b:=by split<;>rfl
theorem condR_b {a b:Rc}{t:Bool}:condR a b (.bool t)=if t=true then a else b:=idq rfl
section
variable {A B:Env→Rc}{j:Nat}{t:Bool}
theorem gd_t:gd A B j true env (some (.bool t))=if t=true then A ((j,.bool true)::env) else B ((j,.bool false)::env):=idq rfl
theorem gd_f:gd A B j false env (some (.bool t))=if t=true then B ((j,.bool true)::env) else A ((j,.bool false)::env):=idq rfl
theorem gd_u {b:Bool}:gd A B j b env (some (.tup []))=B env:=idq rfl
@[congr] theorem gd_c {b:Bool}{o o':Option V}(h:o=o'):gd A B j b env o=gd A B j b env o':=by rw[h]
end
theorem bindR_s {v:V}{s:St}:bindR K (some (v,s))=K v s:=idq rfl
theorem bindE_s {v:V}:bindE st K (some v)=K v st:=idq rfl
theorem bindQ_s {v:V}:bindQ k (some v)=k v:=idq rfl
theorem callR_s {v:V}{s:St}:callR K p (some (.ret v,s))=K v s:=idq rfl
theorem quietR_s {v:V}:quietR st k (some (.ret v,st))=k v:=if_pos (St.eqv.refl st)
theorem iE_call (f:Opd)(args:List Opd):insE E env st K (.call f args)=callR K (@kh _ ⟨fun v s=>some (.pan v,env,s)⟩) (callE E st (args.map (·.get env)) (f.get env)):=idq rfl
theorem iQ_call (f:Opd)(args:List Opd):insQ E env st k (.call f args)=quietR st k (callE E st (args.map (·.get env)) (f.get env)):=idq rfl
theorem callE_f {args a b:List V}{f:FuncId}:callE E st args (.fn (.func f) a b)=E f (snapQ (memL f E.raw) st (a++args++b)) st:=idq rfl
theorem memL_n {k:FuncId}:memL k []=false:=idq rfl
theorem memL_c {k x:FuncId}{l:List FuncId}:memL k (x::l)=if x=k then true else memL k l:=idq rfl
theorem snapQ_t {l:List V}:snapQ true st l=l:=idq rfl
theorem snapQ_f {l:List V}:snapQ false st l=snapL st l:=idq rfl
theorem run_mut:(run P H).raw=H.raw:=idq rfl
attribute [push_cast] memL_n memL_c snapQ_t snapQ_f run_mut
theorem evOps_n:evOps E [] env st=some (.normal,env,st):=idq rfl
theorem evOps_s {d:Nat}{op:SOp}{r:List Ins}:evOps E (⟨some d,op,none⟩::r) env st=insE E env st (@kh _ ⟨fun v s=>evOps E r ((d,v)::env) s⟩) op:=idq rfl
theorem evOps_d {op:SOp}{r:List Ins}:evOps E (⟨none,op,none⟩::r) env st=insE E env st (@kh _ ⟨fun v s=>evOps E r env s⟩) op:=idq rfl
theorem evOps_g {d j:Nat}{b:Bool}{op:SOp}{r:List Ins}:evOps E (⟨some d,op,some (j,b)⟩::r) env st=gd (@kh _ ⟨fun env=>insE E env st (@kh _ ⟨fun v s=>evOps E r ((d,v)::env) s⟩) op⟩) (@kh _ ⟨fun env=>evOps E r ((d,.tup [])::env) st⟩) j b env (look env j):=idq rfl
theorem evOne_s {d:Nat}{op:SOp}{f:Env→St→Rc}:evOne E ⟨some d,op,none⟩ env st f=insE E env st (@kh _ ⟨fun v s=>f ((d,v)::env) s⟩) op:=idq rfl
theorem evOne_d {op:SOp}{f:Env→St→Rc}:evOne E ⟨none,op,none⟩ env st f=insE E env st (@kh _ ⟨fun v s=>f env s⟩) op:=idq rfl
theorem evQ1_s {d:Nat}{op:SOp}{f:Env→Rc}:evQ1 E ⟨some d,op,none⟩ env st f=insQ E env st (@kh _ ⟨fun v=>f ((d,v)::env)⟩) op:=idq rfl
section
variable {q:List V→Env→Rc}{acc:List V}
variable {l:List Ins}
theorem evQ_n:evQ E q [] env st acc=q acc.reverse env:=idq rfl
theorem evQ_s {d:Nat}{op:SOp}{r:List Ins}:evQ E q (⟨some d,op,none⟩::r) env st acc=insQ E env st (@kh _ ⟨fun v=>evQ E q r ((d,v)::env) st (v::acc)⟩) op:=idq rfl
theorem evQ_g {d j:Nat}{b:Bool}{op:SOp}{r:List Ins}:evQ E q (⟨some d,op,some (j,b)⟩::r) env st acc=gd (@kh _ ⟨fun env=>insQ E env st (@kh _ ⟨fun v=>evQ E q r ((d,v)::env) st (v::acc)⟩) op⟩) (@kh _ ⟨fun env=>evQ E q r ((d,.tup [])::env) st (.tup []::acc)⟩) j b env (look env j):=idq rfl
end
@[congr] theorem seqR_c {f:Env→St→Rc}{a b:Rc}(h:a=b):seqR f a=seqR f b:=by rw[h]
@[congr] theorem condR_c {a b:Rc}{v u:V}(h:v=u):condR a b v=condR a b u:=by rw[h]
@[congr] theorem bindR_c {v u:Option (V×St)}(h:v=u):bindR K v=bindR K u:=by rw[h]
@[congr] theorem bindE_c {v u:Option V}(h:v=u):bindE st K v=bindE st K u:=by rw[h]
@[congr] theorem bindQ_c {v u:Option V}(h:v=u):bindQ k v=bindQ k u:=by rw[h]
@[congr] theorem callR_c {v u:Rt}(h:v=u):callR K p v=callR K p u:=by rw[h]
@[congr] theorem quietR_c {st':St}{v u:Rt}(h':st=st')(h:v=u):quietR st k v=quietR st' k u:=by rw[h,h']
@[congr] theorem callE_c {args args':List V}{v u:V}(h:args=args')(h':v=u):callE E st args v=callE E st args' u:=by rw[h,h']
theorem normR_n {f:Env→St→Rc}{e:Env}{s:St}:normR f (some (.normal,e,s))=f e s:=idq rfl
theorem evG_n {U D:List Nat}{fs:List (List Bool)}{h:List Ran}{hs:List St}:evG E U D [] fs env st h hs=some (.normal,env,st):=idq rfl
noncomputable def evGs (E:EvF)(U D:List Nat)(i:Ins)(r:List Ins)(m:List Bool)(fs:List (List Bool))(env:Env)(st:St)(h:List Ran)(hs:List St):Bool→Rc
 |true=>evQ1 E i env st (fun env'=>lateE E i env (valD i.dst env') (evG E U D r fs env' st ((i,env,valD i.dst env')::h) hs) (hs.take m.length))
 |false=>normR (fun env' st'=>reE E st' (evG E U D r fs env' st' ((i,env,valD i.dst env')::h) (st::hs)) (picks m h)) (evOne E i env st (fun e s=>some (.normal,e,s)))
theorem evG_s {U D:List Nat}{i:Ins}{r:List Ins}{m:List Bool}{fs:List (List Bool)}{h:List Ran}{hs:List St}:evG E U D (i::r) (m::fs) env st h hs=evGs E U D i r m fs env st h hs (i.qt U D):=by
 unfold evG evGs;cases i.qt U D<;>simp
theorem evGs_t {U D:List Nat}{i:Ins}{r:List Ins}{m:List Bool}{fs:List (List Bool)}{h:List Ran}{hs:List St}:evGs E U D i r m fs env st h hs true=evQ1 E i env st (@kh _ ⟨fun env'=>lateE E i env (valD i.dst env') (evG E U D r fs env' st ((i,env,valD i.dst env')::h) hs) (hs.take m.length)⟩):=idq rfl
theorem evGs_f {U D:List Nat}{i:Ins}{r:List Ins}{m:List Bool}{fs:List (List Bool)}{h:List Ran}{hs:List St}:evGs E U D i r m fs env st h hs false=normR (@kh _ ⟨fun env' st'=>reE E st' (evG E U D r fs env' st' ((i,env,valD i.dst env')::h) (st::hs)) (picks m h)⟩) (evOne E i env st (@kh _ ⟨fun e s=>some (.normal,e,s)⟩)):=idq rfl
@[congr] theorem evGs_c {U D:List Nat}{i:Ins}{r:List Ins}{m:List Bool}{fs:List (List Bool)}{h:List Ran}{hs:List St}{a b:Bool}(e:a=b):evGs E U D i r m fs env st h hs a=evGs E U D i r m fs env st h hs b:=by rw[e]
theorem qt_n {d:Option Nat}{op:SOp}{g:Option (Nat×Bool)}:Ins.qt [] [] ⟨d,op,g⟩=op.quiet:=by cases d<;>rfl
theorem qt_0 {U D:List Nat}{op:SOp}{g:Option (Nat×Bool)}:Ins.qt U D ⟨none,op,g⟩=op.quiet:=by cases U<;>cases D<;>rfl
theorem qt_u {u d:Nat}{U D:List Nat}{op:SOp}{g:Option (Nat×Bool)}:Ins.qt (u::U) D ⟨some d,op,g⟩=bif memD (some d) (u::U) then false else bif memD (some d) D then true else op.quiet:=idq rfl
theorem qt_d {u d:Nat}{D:List Nat}{op:SOp}{g:Option (Nat×Bool)}:Ins.qt [] (u::D) ⟨some d,op,g⟩=bif memD (some d) (u::D) then true else op.quiet:=idq rfl
theorem memD_c {d x:Nat}{l:List Nat}:memD (some d) (x::l)=if x=d then true else memD (some d) l:=idq rfl
theorem memD_0 {o:Option Nat}:memD o []=false:=by cases o<;>rfl
theorem iQ_bsl {e es:Nat}{xs:List Opd}:insQ E env st k (.bslice e es xs)=bindQ k (bslQ st es (xs.map (·.get env))):=idq rfl
attribute [push_cast] qt_n qt_0 qt_u qt_d memD_c memD_0 iQ_bsl
@[congr] theorem normR_c {f:Env→St→Rc}{a b:Rc}(h:a=b):normR f a=normR f b:=by rw[h]
theorem reE_n {f:Rc}:reE E st f []=f:=idq rfl
theorem reE_s {f:Rc}{i:Ins}{e:Env}{v:V}{r:List Ran}:reE E st f ((i,e,v)::r)=evQ1 E i e st (@kh _ ⟨fun env'=>sameE i.dst v env' (reE E st f r)⟩):=idq rfl
theorem lateE_n {f:Rc}{i:Ins}{v:V}:lateE E i env v f []=f:=idq rfl
theorem lateE_s {f:Rc}{i:Ins}{v:V}{s:St}{r:List St}:lateE E i env v f (s::r)=evQ1 E i env s (@kh _ ⟨fun env'=>sameE i.dst v env' (lateE E i env v f r)⟩):=idq rfl
@[congr] theorem lateE_c {f:Rc}{i:Ins}{v:V}{l l':List St}(h:l=l'):lateE E i env v f l=lateE E i env v f l':=by rw[h]
theorem sameE_s {d:Nat}{v:V}{f:Rc}:sameE (some d) v env f=sameO (look env d) v f:=idq rfl
theorem sameO_s {v:V}{f:Rc}:sameO (some v) v f=f:=by simp[sameO]
@[congr] theorem sameO_c {o o':Option V}{v:V}{f:Rc}(h:o=o'):sameO o v f=sameO o' v f:=by rw[h]
open Classical in
noncomputable def dn {β:Type}(c:Prop)(r:Option β):Option β:=if c then r else none
theorem dn_eq {β:Type}{c:Prop}{r x:Option β}(h:c)(e:r=x):dn c r=x:=by unfold dn;rw[if_pos h,e]
theorem dn_t {β:Type}{r:Option β}:dn True r=r:=dn_eq trivial rfl
theorem dn_dn {β:Type}{c d:Prop}{r:Option β}:dn c (dn d r)=dn (c∧d) r:=by unfold dn;by_cases h:c<;>by_cases h':d<;>simp[h,h']
theorem dn_strict {β γ:Type}{f:Option β→Option γ}(h:f none=none){c:Prop}{r:Option β}:f (dn c r)=dn c (f r):=by unfold dn;split<;>first|rfl|exact h
theorem if_n {β:Type}{c:Prop}[Decidable c]{r:Option β}:(if c then r else none)=dn c r:=by unfold dn;by_cases h:c<;>simp[h]
theorem if_m {β:Type}{c:Prop}[Decidable c]{r:Option β}:(if c then none else r)=dn (¬c) r:=by unfold dn;by_cases h:c<;>simp[h]
theorem if_d1 {β:Type}{c p:Prop}[Decidable c]{r q:Option β}:(if c then dn p r else q)=dn (c→p) (if c then r else q):=by unfold dn;by_cases h:c<;>by_cases h':p<;>simp[h,h']
theorem if_d2 {β:Type}{c p:Prop}[Decidable c]{r q:Option β}:(if c then r else dn p q)=dn (¬c→p) (if c then r else q):=by unfold dn;by_cases h:c<;>by_cases h':p<;>simp[h,h']
theorem seqR_d {f:Env→St→Rc}{c:Prop}{r:Rc}:seqR f (dn c r)=dn c (seqR f r):=dn_strict rfl
theorem cutR_d {i:Nat}{c:Prop}{r:Rc}:cutR i (dn c r)=dn c (cutR i r):=dn_strict rfl
theorem blockR_d {i:Nat}{c:Prop}{r:Rc}:blockR i (dn c r)=dn c (blockR i r):=dn_strict rfl
theorem bindR_d {c:Prop}{r:Option (V×St)}:bindR K (dn c r)=dn c (bindR K r):=dn_strict rfl
theorem bindE_d {c:Prop}{r:Option V}:bindE st K (dn c r)=dn c (bindE st K r):=dn_strict rfl
theorem bindQ_d {c:Prop}{r:Option V}:bindQ k (dn c r)=dn c (bindQ k r):=dn_strict rfl
theorem callR_d {c:Prop}{r:Rt}:callR K p (dn c r)=dn c (callR K p r):=dn_strict rfl
theorem normR_d {f:Env→St→Rc}{c:Prop}{r:Rc}:normR f (dn c r)=dn c (normR f r):=dn_strict rfl
theorem rawE_d {res:List Res}{c:Prop}{r:Rc}:rawE res (dn c r)=dn c (rawE res r):=dn_strict rfl
theorem shutR_d {c:Prop}{r:Rt}:shutR st (dn c r)=dn c (shutR st r):=dn_strict rfl
theorem openR_d {n:Nat}{c:Prop}{r:Rt}:openR n (dn c r)=dn c (openR n r):=dn_strict rfl
theorem omap_d {β γ:Type}{f:β→γ}{c:Prop}{r:Option β}:(dn c r).map f=dn c (r.map f):=dn_strict rfl
@[congr] theorem dn_c {β:Type}{c c':Prop}{r r':Option β}(h:c=c')(h':r=r'):dn c r=dn c' r':=by rw[h,h']
def jn (e:Env)(s:St):Rc:=some (.normal,e,s)
theorem restR_n {lv:List Nat}{e:Env}{s:St}:restR lv (some (.normal,e,s))=jn (restr lv e) s:=idq rfl
theorem restR_x {lv:List Nat}{i:Nat}{e:Env}{s:St}:restR lv (some (.exit i,e,s))=some (.exit i,e,s):=idq rfl
theorem restR_r {lv:List Nat}{e:Env}{s:St}:restR lv (some (.ret,e,s))=some (.ret,e,s):=idq rfl
theorem restR_i {lv:List Nat}{c:Prop}[Decidable c]{a b:Rc}:restR lv (if c then a else b)=if c then restR lv a else restR lv b:=by split<;>rfl
theorem restR_d {lv:List Nat}{c:Prop}{r:Rc}:restR lv (dn c r)=dn c (restR lv r):=dn_strict rfl
theorem seqR_j {f:Env→St→Rc}{e:Env}{s:St}:seqR f (jn e s)=f e s:=idq rfl
theorem mgJ {c:Prop}[Decidable c]{e e':Env}{s:St}:(if c then jn e s else jn e' s)=jn (if c then e else e') s:=by split<;>rfl
theorem mgJ4 {c d:Prop}[Decidable c][Decidable d]{e e':Env}{s:St}{q:Rc}:(if c then if d then q else jn e s else jn e' s)=if c∧d then q else jn (if c then e else e') s:=by by_cases h:c<;>by_cases h':d<;>simp[h,h']
theorem mgR {c:Prop}[Decidable c]{e e':Env}{s:St}:(if c then some (VX.ret,e,s) else some (VX.ret,e',s))=some (VX.ret,(if c then e else e'),s):=by split<;>rfl
theorem mgT {c:Prop}[Decidable c]{a b:V}{s:St}:(if c then some (VRes.ret a,s) else some (VRes.ret b,s))=some (VRes.ret (if c then a else b),s):=by split<;>rfl
theorem mgE {c:Prop}[Decidable c]{i:Nat}{a b:V}{l m:Env}:(if c then(i,a)::l else(i,b)::m)=(i,if c then a else b)::(if c then l else m):=by split<;>rfl
theorem mgL {c:Prop}[Decidable c]{a b:V}{l m:List V}:(if c then a::l else b::m)=(if c then a else b)::(if c then l else m):=by split<;>rfl
theorem mg_bool {c:Prop}[Decidable c]{a b:Bool}:(if c then V.bool a else V.bool b)=V.bool (if c then a else b):=by split<;>rfl
theorem mg_int {c:Prop}[Decidable c]{q:IntKind}{a b:Int}:(if c then V.int q a else V.int q b)=V.int q (if c then a else b):=by split<;>rfl
theorem mg_str {c:Prop}[Decidable c]{a b:List UInt8}:(if c then V.str a else V.str b)=V.str (if c then a else b):=by split<;>rfl
theorem mg_sl {c:Prop}[Decidable c]{a b:List V}:(if c then V.sl a else V.sl b)=V.sl (if c then a else b):=by split<;>rfl
theorem if_and {c:Prop}[Decidable c]{x:Bool}:(if c then x else false)=(decide c&&x):=by by_cases h:c<;>simp[h]
theorem if_or {c:Prop}[Decidable c]{x:Bool}:(if c then true else x)=(decide c||x):=by by_cases h:c<;>simp[h]
theorem if_nand {c:Prop}[Decidable c]{x:Bool}:(if c then false else x)=(!decide c&&x):=by by_cases h:c<;>simp[h]
section
variable {f:Env→St→Rc}
theorem ownR_n:ownR f [] env st=f env st:=idq rfl
def ownB (f:Env→St→Rc)(t e es:Nat)(r:List (Nat×Nat×Nat))(env:Env)(st:St):Option V→Rc
 |some .nils=>if 4096≤es then ownR f r ((t,.osl st.nx 0)::env) ⟨st.nx+1,st.mem,(st.nx,⟨e,es-4096,[],true,false⟩)::st.arr,st.x⟩
  else ownR f r ((t,.osl st.nx 0)::env) ⟨st.nx+1,st.mem,(st.nx,⟨e,es,[],false,false⟩)::st.arr,st.x⟩
 |_=>ownR f r env st
theorem ownR_s {t e es:Nat}{r:List (Nat×Nat×Nat)}:ownR f ((t,e,es)::r) env st=ownB f t e es r env st (look env t):=by unfold ownR ownB;rfl
theorem ownB_n {t e es:Nat}{r:List (Nat×Nat×Nat)}:ownB f t e es r env st (some .nils)=if 4096≤es then ownR f r ((t,.osl st.nx 0)::env) ⟨st.nx+1,st.mem,(st.nx,⟨e,es-4096,[],true,false⟩)::st.arr,st.x⟩ else ownR f r ((t,.osl st.nx 0)::env) ⟨st.nx+1,st.mem,(st.nx,⟨e,es,[],false,false⟩)::st.arr,st.x⟩:=idq rfl
theorem ownB_o {t e es i n:Nat}{r:List (Nat×Nat×Nat)}:ownB f t e es r env st (some (.osl i n))=ownR f r env st:=idq rfl
@[congr] theorem ownB_c {t e es:Nat}{r:List (Nat×Nat×Nat)}{o o':Option V}(h:o=o'):ownB f t e es r env st o=ownB f t e es r env st o':=by rw[h]
end
theorem restr_n:restr [] env=[]:=idq rfl
theorem restr_s {x:Nat}{l:List Nat}:restr (x::l) env=(x,(look env x).getD .und)::restr l env:=idq rfl
@[congr] theorem runL_c {lv:List Nat}{nx:Nat}{c:Cd}{env':Env}{st':St}(h:env=env')(h':st=st'):runL P H lv nx c env st=runL P H lv nx c env' st':=by rw[h,h']
theorem rawE_n {res:List Res}:rawE res (some (.normal,env,st))=rawO st (resV env st res):=idq rfl
theorem rawE_r {res:List Res}:rawE res (some (.ret,env,st))=rawO st (resV env st res):=idq rfl
theorem rawE_i {res:List Res}{c:Prop}[Decidable c]{a b:Rc}:rawE res (if c then a else b)=if c then rawE res a else rawE res b:=by split<;>rfl
theorem rawO_s {vs:List V}:rawO st (some vs)=some (.ret (resOne vs),st):=idq rfl
theorem resOne_1 {v:V}:resOne [v]=v:=idq rfl
theorem resOne_0:resOne []=.tup []:=idq rfl
theorem resOne_2 {u v:V}{r:List V}:resOne (u::v::r)=.tup (u::v::r):=idq rfl
def conV (v:V):Option (List V)→Option (List V)
 |some l=>some (v::l)
 |none=>none
theorem conV_s {v:V}{l:List V}:conV v (some l)=some (v::l):=idq rfl
def resB' (env:Env)(st:St)(r:List Res):Option V→Option (List V)
 |some v=>conV v (resV env st r)
 |none=>none
theorem resB_s {r:List Res}{v:V}:resB' env st r (some v)=conV v (resV env st r):=idq rfl
theorem resV_n:resV env st []=some []:=idq rfl
theorem resV_t {t:Nat}{r:List Res}:resV env st (.tmp t::r)=resB' env st r (look env t):=by
 simp only[resV];cases look env t<;>simp only[resB']<;>cases resV env st r<;>rfl
theorem resV_c {t:Nat}{n:Option Nat}{r:List Res}:resV env st (.cell t n::r)=resB' env st r (loadV st n ((look env t).getD .und)):=by
 simp only[resV];cases loadV st n ((look env t).getD .und)<;>simp only[resB']<;>cases resV env st r<;>rfl
theorem shutR_s {s:St}{v:V}:shutR st (some (.ret v,s))=guardT (some (.ret (shutV s v),st)) ((shutV s v).bd 0):=idq rfl
theorem shutR_i {c:Prop}[Decidable c]{a b:Rt}:shutR st (if c then a else b)=if c then shutR st a else shutR st b:=by split<;>rfl
theorem guardT_t {a:Rt}:guardT a true=a:=idq rfl
theorem openR_s {n:Nat}{s:St}{v:V}:openR n (some (.ret v,s))=some (.ret ((snapV s v).getD v),headS n [(0,(snapV s v).getD v)] s):=idq rfl
@[congr] theorem guardT_c {x:Rt}{a b:Bool}(h:a=b):guardT x a=guardT x b:=by rw[h]
theorem argEnv_s {i:Nat}{v:V}{l:List V}:argEnv i (v::l)=(i,v)::argEnv (i+1) l:=idq rfl
theorem argEnv_n {i:Nat}:argEnv i []=[]:=idq rfl
section
variable {g:List (Nat×Obj)}
theorem stG_eq:stG g=⟨0,[],[],⟨[],g,[]⟩⟩:=idq rfl
end
theorem runL_of {lv:List Nat}{nx:Nat}{c c':Cd}(h:c=c'):runL P H lv nx c env st=seqR (@kh _ ⟨fun e s=>runL P H lv nx c (restr lv e) (headS nx (restr lv e) s)⟩) (cutR nx (runC P H c' env st)):=by rw[←h];exact runL_eq
theorem drop_ind {α:Type}{l:List α}{M:List α→Nat→Prop}(h0:∀j,l.length≤j→M [] j)(h1:∀x r j,j<l.length→(∀d,l.getD j d=x)→l.drop j=x::r→M r (j+1)→M (x::r) j):∀r j,l.drop j=r→M r j
 |[],j,h=>h0 j (by simpa using h)
 |x::r,j,h=>by
  have hlt:j<l.length:=by
   rcases Nat.lt_or_ge j l.length with hl|hl
   ·exact hl
   ·rw[List.drop_eq_nil_of_le hl]at h;cases h
  have hx:=List.drop_eq_getElem_cons hlt
  rw[hx]at h
  cases h
  exact h1 _ _ j hlt (fun d=>by rw[List.getD_eq_getElem?_getD,List.getElem?_eq_getElem hlt];rfl) hx (drop_ind h0 h1 _ _ rfl)
theorem run_shut {f:FuncId}{args:List V}{N:Nat}{res:List Res}{c:Cd}(hF:compF P f=some ⟨N,res,c⟩)(hH:H f args st=none)(hl:Nat.ble args.length N=true)(hb:V.bdL 0 args=true) :
  run P H f args st=shutR st (rawE res (runC P H c (argEnv 0 args) (stG st.x.gl))):=by
 rw[run_eq hH hF];unfold endF;rw[if_pos (Nat.le_of_ble_eq_true hl),if_pos hb]
theorem run_open {f:FuncId}{args:List V}{N:Nat}{res:List Res}{c:Cd}(hF:compF P f=some ⟨N,res,c⟩)(hH:H f args st=none)(hl:Nat.ble args.length N=true)(hb:V.bdL 0 args=false) :
  run P H f args st=openR st.nx (rawE res (runC P H c (argEnv 0 args) st)):=by
 rw[run_eq hH hF];unfold endF;rw[if_pos (Nat.le_of_ble_eq_true hl),if_neg (by rw[hb];simp)]
end
variable {P:Program}{H:EvF}{env:Env}{st:St}{a b:Cd}
theorem runC_dreg' {m:Nat}{l:List Ins}:runC P H (.dreg m l) env st=evQ (run P H) (@kh _ ⟨fun _ env'=>evOps (run P H) (l.drop m) env' st⟩) (l.take m) env st []:=runC_dreg
theorem runC_seq':runC P H (.seq a b) env st=seqR (@kh _ ⟨runC P H b⟩) (runC P H a env st):=runC_seq
theorem runC_join' {lv:List Nat}:runC P H (.join lv a b) env st=seqR (@kh _ ⟨runC P H b⟩) (restR lv (runC P H a env st)):=runC_join
theorem runC_frz' {l:List Nat}:runC P H (.frz l a) env st=frzR (@kh _ ⟨runC P H a⟩) l env st:=runC_frz
def frzB (k:Env→St→Rc)(t:Nat)(r:List Nat)(env:Env)(st:St):Option V→Rc
 |some (.ptr id 0)=>match look st.mem id with
  |some cs=>frzR k r ((t,.ep (.agg cs) 0)::env) ⟨st.nx,dropM id st.mem,st.arr,st.x⟩
  |none=>frzR k r env st
 |_=>frzR k r env st
def frzO (k:Env→St→Rc)(t id:Nat)(r:List Nat)(env:Env)(st:St):Option (List V)→Rc
 |some cs=>frzR k r ((t,.ep (.agg cs) 0)::env) ⟨st.nx,dropM id st.mem,st.arr,st.x⟩
 |none=>frzR k r env st
theorem frzR_n {k:Env→St→Rc}:frzR k [] env st=k env st:=idq rfl
theorem frzR_s {k:Env→St→Rc}{t:Nat}{r:List Nat}:frzR k (t::r) env st=frzB k t r env st (look env t):=idq rfl
theorem frzB_p {k:Env→St→Rc}{t id:Nat}{r:List Nat}:frzB k t r env st (some (.ptr id 0))=frzO k t id r env st (look st.mem id):=idq rfl
theorem frzO_s {k:Env→St→Rc}{t id:Nat}{r:List Nat}{cs:List V}:frzO k t id r env st (some cs)=frzR k r ((t,.ep (.agg cs) 0)::env) ⟨st.nx,dropM id st.mem,st.arr,st.x⟩:=idq rfl
theorem dropM_n {id:Nat}:dropM id []=[]:=idq rfl
theorem dropM_s {id i:Nat}{x:List V}{m:List (Nat×List V)}:dropM id ((i,x)::m)=if i=id then dropM id m else(i,x)::dropM id m:=by
 unfold dropM;simp only[List.filter_cons];by_cases h:i=id<;>simp[h]
attribute [push_cast] runC_frz' frzR_n frzR_s frzB_p frzO_s dropM_n dropM_s
theorem runC_loop' {lv:List Nat}{ow:List (Nat×Nat×Nat)}:runC P H (.loop lv ow a) env st=ownR (@kh _ ⟨fun e s=>runL P H lv s.nx a (restr lv e) s⟩) ow env st:=runC_loop
attribute [push_cast] runC_skip runC_exit runC_ret runC_reg runC_dreg' runC_greg runC_seq' runC_join' runC_cond runC_block runC_loop' seqR_n seqR_x seqR_r seqR_i cutR_n cutR_x cutR_r cutR_i cutR_d blockR_n blockR_x blockR_r blockR_i condR_b gd_t gd_f gd_u bindR_s bindE_s bindQ_s callR_s quietR_s iE_call iQ_call callE_f evOps_n evOps_s evOps_d evOps_g evOne_s evOne_d evQ1_s evQ_n evQ_s evQ_g normR_n evG_n evG_s evGs_t evGs_f reE_n reE_s lateE_n lateE_s sameE_s sameO_s dn_t dn_dn if_n if_m if_d1 if_d2 seqR_d blockR_d bindR_d bindE_d bindQ_d callR_d normR_d rawE_d shutR_d openR_d omap_d restR_n restR_x restR_r restR_i restR_d seqR_j mgJ mgJ4 mgR mgT mgE mgL mg_bool mg_int mg_str mg_sl if_and if_or if_nand ite_self ownR_n ownR_s ownB_n ownB_o restr_n restr_s rawE_n rawE_r rawE_i rawO_s resOne_1 resOne_0 resOne_2 conV_s resB_s resV_n resV_t resV_c shutR_s shutR_i guardT_t openR_s argEnv_s argEnv_n stG_eq
end Go.Sha
