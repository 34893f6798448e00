/- Ranging over a map, in whatever order; nil slices that are written from now on. -/
import Derived.Test.YtdkokbhcjmapdaaGreatDoorKShbXD
set_option linter.unusedSimpArgs false
set_option linter.unusedVariables false
namespace Go.Sha
section
variable {P:Program}{N:Fr}{H:EvF}
theorem WD.ownW {lv:List Nat}{t e es:Nat}{r:List (Nat×Nat×Nat)}{a:Cd}{env:Env}{st:St}{Q:Post}(hl:look env t=some .nils)
  (k:WD P N (.loop lv r a) ((t,.osl st.nx 0)::env) ⟨st.nx+1,st.mem,(st.nx,⟨e,es,[],true,false⟩)::st.arr,st.x⟩ Q):WD P N (.loop lv ((t,e,es)::r) a) env st Q:=fun c hc=>W_ownW e es hl (k c hc)
theorem perm_range {l:List Nat}{n:Nat}(hn:l.Nodup)(hb:∀j∈l,j<n)(ha:∀j,j<n→j∈l):l.Perm (List.range n) :=
 (List.perm_ext_iff_of_nodup hn List.nodup_range).2 fun j=>by rw[List.mem_range];exact⟨hb j,ha j⟩
theorem nodup_lt {l:List Nat}{n j:Nat}(hn:l.Nodup)(hb:∀j∈l,j<n)(hj:j<n)(hl:j ∉ l):l.length<n:=by
 have h1:(j::l).Nodup:=List.nodup_cons.2 ⟨hl,hn⟩
 have hb':∀x∈j::l,x<n:=fun x hx=>by
  rcases List.mem_cons.1 hx with rfl|h
  ·exact hj
  ·exact hb x h
 have h2:(j::l).Perm ((List.range n).filter fun x=>decide (x∈j::l)):=(List.perm_ext_iff_of_nodup h1 (List.nodup_range.filter _)).2 fun x=>by
  rw[List.mem_filter,List.mem_range,decide_eq_true_eq]
  exact⟨fun h=>⟨hb' x h,h⟩,fun h=>h.2⟩
 have h3:=h2.length_eq
 have h4:=List.length_filter_le (fun x=>decide (x∈j::l)) (List.range n)
 rw[List.length_range]at h4
 rw[List.length_cons]at h3
 omega
theorem WD.rng {a b c:Nat}{k:Cd}{lv:List Nat}{env:Env}{st:St}{Q:Post}{it mp:Nat}{es:List (V×V)}(J:List Nat→Env→St→Prop)(nx:Nat)(hab:a≠b)
  (hJ:∀seen e s,J seen e s→s.nx=nx∧look e b=some (.ptr it 0)∧look s.x.obj it=some (.iter mp es.length seen)∧look s.x.obj mp=some (.map es))
  (h0:∃env' st',J [] env' st'∧WeakEnv nx env env'∧Weak nx st st') (hnx:st.nx≤nx)
  (hend:∀seen e s,J seen e s→seen.Perm (List.range es.length)→WD P N k ((c,.bool false)::(a,.tup [.bool false])::e) s (seqPost (fun _ _=>False) Q))
  (hstep:∀seen j e s kv,J seen e s→es[j]?=some kv→j ∉ seen→seen.length<es.length→WD P N k ((c,.bool true)::(a,.tup [.bool true,kv.1,kv.2])::e) ⟨s.nx,s.mem,s.arr,⟨updO s.x.obj it (.iter mp es.length (seen++[j])),s.x.gl,s.x.ty⟩⟩
   (seqPost (fun e' s'=>∃e2 s2,J (seen++[j]) e2 s2∧WeakEnv nx e' e2∧Weak nx s' s2) Q)) :
  WD P N (.loop lv [] (.seq (.reg [⟨some a,.nxt (.t b),none⟩,⟨some c,.ext 0 (.t a),none⟩]) k)) env st Q:=by
 refine WD.loop (fun n e s=>∃seen,J seen e s∧seen.Nodup∧(∀j∈seen,j<es.length)∧n+seen.length=es.length) nx hnx (fun n e s ⟨seen,h,_⟩=>(hJ seen e s h).1) ?_ fun n e s ⟨seen,h,h1,h2,h3⟩=>?_
 ·obtain⟨e,s,h,h1,h2⟩:=h0
  exact⟨es.length,e,s,⟨[],h,List.nodup_nil,by simp,rfl⟩,h1,h2⟩
 ·obtain⟨k1,k2,k3,k4⟩:=hJ seen e s h
  refine WD.seq (WD.reg ?_)
  have hab':¬b=a:=fun e=>hab e.symm
  simp only[vcOps,wantV,upon,fork,if_true,Opd.get,k2,Option.getD_some,nxtK,k3,k4,stv,evs,setD,look]
  refine⟨trivial,fun hall=>?_,fun j kv hj hs=>?_⟩
  ·refine(hend seen e s h (perm_range h1 h2 hall)).mono fun x e' s' hq=>?_
   cases x<;>first|exact hq.elim|exact hq
  ·have hjl:j<es.length:=(List.getElem?_eq_some_iff.1 hj).1
   have hlt:=nodup_lt h1 h2 hjl hs
   refine(hstep seen j e s kv h hj hs hlt).mono fun x e' s' hq=>?_
   cases x with
   |normal =>
    obtain⟨e2,s2,q1,q2,q3⟩:=hq
    refine⟨n-1,e2,s2,by omega,⟨seen++[j],q1,?_,?_,by rw[List.length_append,List.length_singleton];omega⟩,q2,q3⟩
    ·exact List.nodup_append.2 ⟨h1,List.nodup_cons.2 ⟨by simp,List.nodup_nil⟩,fun x hx y hy e=>by rw[List.mem_singleton]at hy;subst hy;subst e;exact hs hx⟩
    ·intro x hx
     rcases List.mem_append.1 hx with hx|hx
     ·exact h2 x hx
     ·rw[List.mem_singleton.1 hx];exact hjl
   |_=>exact hq
end
end Go.Sha
