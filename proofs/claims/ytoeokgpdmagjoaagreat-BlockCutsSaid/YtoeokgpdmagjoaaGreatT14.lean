import Derived.OpenShut
import Derived.Carry
import Derived.ChangeSlices
import Derived.SliceStrings
import Derived.ChangeMaps5
import Derived.Test.YtoeokgpdmagjoaaGreatT13
/-
A part of the proof: steps of the walk and plain laws.
-/
set_option linter.unusedVariables false
namespace Go.Proofs.Tryz
open Go Go.RowKit Go.Proofs.VC
theorem u8_of_wf {a:Int} (h:(Lit.int .u8 a).wf=true):∃n:Nat,a=(n:Int)∧n<256:=by
 have h1:0≤a∧a≤255:=by simpa [Lit.wf,IntKind.min,IntKind.max,IntKind.bits,IntKind.signed]using h
 exact⟨a.toNat,by omega,by omega⟩
theorem u64_of_wf {a:Int} (h:(Lit.int .u64 a).wf=true):∃n:Nat,a=(n:Int)∧n<WW:=by
 have h1:0≤a∧a≤18446744073709551615:=by simpa [Lit.wf,IntKind.min,IntKind.max,IntKind.bits,IntKind.signed]using h
 exact⟨a.toNat,by omega,ltW (by omega)⟩
theorem u16_of_wf {a:Int} (h:(Lit.int .u16 a).wf=true):∃n:Nat,a=(n:Int)∧n<65536:=by
 have h1:0≤a∧a≤65535:=by simpa [Lit.wf,IntKind.min,IntKind.max,IntKind.bits,IntKind.signed]using h
 exact⟨a.toNat,by omega,by omega⟩
end Go.Proofs.Tryz
namespace Go.Proofs.Tryz
open Go Go.RowKit Go.ChangeShapes Go.WideShapes Go.Proofs.VC
section
variable {H:Type} {enc:TypeId×Value→H} {P:Program} {W:World}
theorem trodAll_below (hl:laidOutB P=true) {W':World} (hb:Below W.heap.size W W'):∀ {ts:List TypeId} {vs:List Value} {ds:List (DataW H)} {ps:List MemPlace},
 (ts.all fun t=>P.readableRec t&&decide (t<P.types.size))=true→DataW.TrodAll enc P W 0 (fun _=>true) true ts vs ds ps→(∀x∈ps,x.block<W.heap.size)→
 DataW.TrodAll enc P W' 0 (fun b=>decide (b<W.heap.size)) true ts vs ds ps
 | [],_,_,_,_,h,_=>by
   obtain⟨rfl,rfl,rfl⟩:=trodAll_nil h
   exact trodAll_mk0
 |t::ts,_,_,_,hr,h,hlt=>by
  obtain⟨v,vs,d,ds,p,q,rfl,rfl,rfl,h1,h2⟩:=trodAll_cons h
  simp only [List.all_cons,Bool.and_eq_true,decide_eq_true_eq]at hr
  exact trodAll_cons_mk (Below.trod hl hr.1.1 hr.1.2 h1 hb fun x hx=>hlt x (List.mem_append_left _ hx)) (trodAll_below hl hb (by simpa using hr.2) h2 fun x hx=>hlt x (List.mem_append_right _ hx))
theorem arg_ints {t e:TypeId} {k:IntKind} {r:Reach} {b0:Nat} {v:Value} {d:DataW H} {ps:List MemPlace} (ht:P.underlying t=some (.slice e)) (he:P.underlying e=some (.int k)) (hc:P.cellsOf e=1)
 (hval:Value.okWide P W r b0 t v) (h:DataW.Trod enc P W 0 (fun _=>true) true t v d ps):
 ∃(a:Option Addr) (n c:Nat) (zs:List Int),v= .slice a n c∧n≤c∧c≤maxLen∧n=zs.length∧(∀z∈zs,(Lit.int k z).wf=true)∧Sl W a (zs.map (Value.int k)):=by
 obtain⟨a,n,c,rfl⟩:=okWide_slice ht hval
 obtain⟨fuel,hf⟩:=h
 rcases open_ints ht he hc hf with⟨hcs,_⟩|⟨a',len,cap,zs,hcs,_,hl,hm,hz,_,hcell,hwz⟩
 · simp [Value.cells]at hcs
   obtain⟨rfl,rfl,rfl⟩:=hcs
   exact⟨none,0,0,[],rfl,Nat.le_refl _,by simp [maxLen],rfl,by simp,Sl.nil _ _⟩
 · simp [Value.cells]at hcs
   obtain⟨rfl,rfl,rfl⟩:=hcs
   simp only [if_true]at hz
   refine⟨some a',n,c,zs.take n,rfl,hl,hm,by rw [List.length_take];omega,fun z hz'=>hwz z (List.mem_of_mem_take hz'),fun j u hu=>⟨a',rfl,?_⟩⟩
   rw [List.getElem?_map,List.getElem?_take]at hu
   split at hu
   · rename_i hj
     have hjz:j<zs.length:=by omega
     have:=hcell j hjz
     rw [List.getElem?_eq_getElem hjz]at hu
     simp only [Option.map_some,Option.some.injEq]at hu
     rw [List.getD_eq_getElem?_getD,List.getElem?_eq_getElem hjz,Option.getD_some]at this
     rw [this,hu]
   · simp at hu
theorem arg_u16s {t e:TypeId} {r:Reach} {b0:Nat} {v:Value} {d:DataW H} {ps:List MemPlace} (ht:P.underlying t=some (.slice e)) (he:P.underlying e=some (.int .u16)) (hc:P.cellsOf e=1)
 (hval:Value.okWide P W r b0 t v) (h:DataW.Trod enc P W 0 (fun _=>true) true t v d ps):
 ∃(a:Option Addr) (n c:Nat) (ns:List Nat),v= .slice a n c∧n≤c∧c≤maxLen∧n=ns.length∧(∀x∈ns,x<65536)∧Sl W a (u16s ns):=by
 obtain⟨a,n,c,zs,rfl,h1,h2,rfl,h4,h5⟩:=arg_ints ht he hc hval h
 refine⟨a,_,c,zs.map Int.toNat,rfl,h1,h2,by simp,fun x hx=>?_,?_⟩
 · obtain⟨z,hz,rfl⟩:=List.mem_map.1 hx
   obtain⟨m,rfl,hm⟩:=u16_of_wf (h4 z hz)
   simpa using hm
 · have:u16s (zs.map Int.toNat)=zs.map (Value.int .u16):=by
    rw [u16s,List.map_map]
    refine List.map_congr_left fun z hz=>?_
    obtain⟨m,rfl,hm⟩:=u16_of_wf (h4 z hz)
    rfl
   rw [this];exact h5
theorem arg_u64 {t:TypeId} {r:Reach} {b0:Nat} {v:Value} {d:DataW H} {ps:List MemPlace} (ht:P.underlying t=some (.int .u64)) (hval:Value.okWide P W r b0 t v) (h:DataW.Trod enc P W 0 (fun _=>true) true t v d ps):∃x:Nat,v= .int .u64 (x:Int)∧x<WW:=by
 obtain⟨a,rfl,_,_,w0⟩:=open_int ht hval h
 obtain⟨n,rfl,hn⟩:=u64_of_wf w0
 exact⟨n,rfl,hn⟩
theorem arg_u16 {t:TypeId} {r:Reach} {b0:Nat} {v:Value} {d:DataW H} {ps:List MemPlace} (ht:P.underlying t=some (.int .u16)) (hval:Value.okWide P W r b0 t v) (h:DataW.Trod enc P W 0 (fun _=>true) true t v d ps):∃x:Nat,v= .int .u16 (x:Int)∧x<65536:=by
 obtain⟨a,rfl,_,_,w0⟩:=open_int ht hval h
 obtain⟨n,rfl,hn⟩:=u16_of_wf w0
 exact⟨n,rfl,hn⟩
theorem arg_u8 {t:TypeId} {r:Reach} {b0:Nat} {v:Value} {d:DataW H} {ps:List MemPlace} (ht:P.underlying t=some (.int .u8)) (hval:Value.okWide P W r b0 t v) (h:DataW.Trod enc P W 0 (fun _=>true) true t v d ps):∃x:Nat,v= .int .u8 (x:Int)∧x<256:=by
 obtain⟨a,rfl,_,_,w0⟩:=open_int ht hval h
 obtain⟨n,rfl,hn⟩:=u8_of_wf w0
 exact⟨n,rfl,hn⟩
end
end Go.Proofs.Tryz
