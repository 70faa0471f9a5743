/-
  Parts of the proof: Fw1, Fw2, Fw3, Fw4, Fw5, Fw6, Fw7, Fw8, Fw40, Fw41, Fw9, Fw10, Fw11, Fw12, Fw13, Fw14, Fw15, Fw16, Fw17, Fw18: the framework (Fw), pure forms (Dn), plain laws (Pl, Th), calls of functions (Ok).
-/
import Derived.Laws.AppendOwn
import Derived.ArgAppend
import Derived.Laws.IdiomCopy
import Derived.Laws.Cells
import Derived.Laws.MakeOwn
import Derived.Calls
import Derived.Orders
import Derived.Laws.Entries
import Derived.Maps.RangeRun

set_option linter.all false
abbrev br:=@Option.bind_some
abbrev bM:=@Bool.and_eq_true
abbrev bS:=@Nat.le_refl
abbrev ch:=@Nat.lt_or_ge
abbrev ct:=@List.getElem?_eq_getElem
abbrev cI:=@Option.some.injEq
abbrev dj:=@List.mem_map
abbrev dk:=@Option.bind_eq_some_iff
abbrev dt:=@List.getElem_mem
abbrev dV:=@List.mem_cons
abbrev d4:=@Int.toNat_natCast
abbrev eu:=@Nat.le_trans
abbrev eC:=@List.take_of_length_le
abbrev eL:=@Nat.zero_le
abbrev eM:=@Option.map_eq_some_iff
abbrev eY:=@List.map_cons
abbrev eZ:=@Nat.eq_of_beq_eq_true
abbrev e9:=@List.getElem?_eq_some_iff
abbrev fe:=@List.mem_append
abbrev ff:=@Option.some.inj
abbrev fk:=@List.all_eq_true
abbrev fl:=@List.length_take
abbrev fu:=@Int.le_of_lt
abbrev fv:=@List.mem_singleton
abbrev fw:=@Nat.le_of_ble_eq_true
abbrev f5:=@List.getElem?_map
abbrev f6:=@List.mem_cons_of_mem
abbrev gn:=@Int.eq_ofNat_of_zero_le
abbrev gy:=@List.getElem?_eq_none
abbrev gz:=@Prod.mk.injEq
abbrev g6:=@Option.map_some
abbrev hh:=@List.cons.injEq
abbrev hj:=@List.nil_append
abbrev hJ:=@Bool.or_eq_true
abbrev hX:=@List.mem_filter
abbrev iI:=@List.length_map
abbrev iJ:=@Nat.add_mul
abbrev iX:=@List.pairwise_iff_getElem
abbrev iY:=@Nat.min_eq_left
abbrev jj:=@List.ext_getElem?
abbrev jk:=@List.mem_iff_getElem
abbrev jl:=@List.mem_range
abbrev jn:=@Nat.lt_of_lt_of_le
abbrev jS:=@List.map_append
abbrev jT:=@Nat.mul_le_mul_right
abbrev kc:=@List.length_cons
abbrev ke:=@List.map_congr_left
abbrev kr:=@Int.emod_add_mul_ediv
abbrev ks:=@Nat.zero_add
abbrev kt:=@Option.bind_assoc
abbrev kJ:=@Int.lt_or_le
abbrev kK:=@Int.mul_comm
abbrev kL:=@List.flatten_cons
abbrev kM:=@List.length_filter_le
abbrev kN:=@List.mem_flatten
abbrev kO:=@List.nodup_append
abbrev kP:=@Nat.one_mul
abbrev lc:=@List.getD_eq_getElem?_getD
abbrev ld:=@List.getElem?_cons_zero
abbrev lN:=@Bool.not_true
abbrev lQ:=@List.nodup_cons
abbrev lR:=@Nat.pow_add
abbrev mz:=@List.cons_append
abbrev mA:=@List.filter_cons
abbrev mB:=@List.mem_cons_self
abbrev mC:=@Nat.pow_succ
abbrev mD:=@Nat.two_pow_pos
abbrev nf:=@Int.mul_le_mul_of_nonneg_left
abbrev ng:=@List.getElem?_drop
abbrev nN:=@Bool.not_false
abbrev nP:=@List.getElem?_set_self
abbrev nQ:=@List.mem_of_getElem?
abbrev nR:=@List.take_add_one
abbrev oF:=@Int.mul_le_mul_of_nonneg_right
abbrev oG:=@List.getElem?_take_of_lt
abbrev oH:=@List.mem_append_right
abbrev oI:=@Nat.mul_comm
abbrev oJ:=@Nat.mul_le_mul
abbrev pb:=@List.eq_nil_of_length_eq_zero
abbrev pc:=@List.getElem?_replicate
abbrev pd:=@List.getElem?_set_ne
abbrev pe:=@List.length_drop
abbrev pf:=@List.take_append_drop
abbrev pg:=@Nat.add_zero
abbrev qa:=@Array.getElem?_eq_some_iff
abbrev qb:=@Bool.eq_iff_iff
abbrev qc:=@Int.ediv_nonneg
abbrev qd:=@Int.mul_nonneg
abbrev qe:=@Int.natCast_mul
abbrev qf:=@Int.pow_add
abbrev qg:=@List.filter_append
abbrev qh:=@List.filter_eq_self
abbrev qi:=@List.length_append
abbrev rf:=@List.drop_zero
abbrev rh:=@List.mem_append_left
abbrev ri:=@List.pairwise_cons
abbrev rj:=@List.range_succ
abbrev rk:=@Nat.eq_zero_or_pos
abbrev rl:=@Nat.lt_trichotomy
abbrev sJ:=@List.any_eq_true
abbrev sK:=@List.append_nil
abbrev sL:=@List.getElem?_append_left
abbrev sO:=@Nat.add_sub_cancel_left
abbrev uc:=@Array.mem_append_right
abbrev ue:=@Int.ediv_eq_zero_of_lt
abbrev uf:=@Int.emod_nonneg
abbrev ug:=@Int.mul_assoc
abbrev uh:=@Int.pow_pos
abbrev ui:=@List.append_assoc
abbrev uj:=@List.drop_drop
abbrev uk:=@List.drop_eq_nil_of_le
abbrev um:=@List.flatten_append
abbrev uo:=@List.getElem?_append_right
abbrev uq:=@List.getElem?_cons_succ
abbrev ur:=@List.getElem?_range
abbrev us:=@List.length_nil
abbrev uu:=@List.length_replicate
abbrev uv:=@List.take_length
abbrev uw:=@Nat.pow_le_pow_right
abbrev wu:=@Array.getElem?_modify
abbrev wy:=@Int.emod_lt_of_pos
abbrev wz:=@Int.le_refl
abbrev wA:=@Int.mul_pos
abbrev wD:=@List.getElem?_set
abbrev wE:=@List.map_map
abbrev wF:=@List.size_toArray
abbrev wG:=@Nat.beq_refl
abbrev wH:=@Option.getD_some
abbrev yD:=@Int.ediv_ediv_of_nonneg
abbrev yE:=@Int.ediv_lt_of_lt_mul
abbrev yF:=@Int.emod_eq_of_lt
abbrev yG:=@Int.natAbs_natCast
abbrev yH:=@List.all_cons
abbrev yI:=@List.count_append
abbrev yJ:=@List.drop_append_of_le_length
abbrev yK:=@List.drop_of_length_le
abbrev yL:=@List.getElem?_take
abbrev yM:=@List.length_range
abbrev yN:=@List.perm_iff_count
abbrev yO:=@List.take_append_of_le_length
abbrev yP:=@Nat.mul_assoc
abbrev Bq:=@Array.getElem?_toList
abbrev Br:=@Array.replicate_succ
abbrev Bs:=@Array.replicate_zero
abbrev Bw:=@Int.add_mul_ediv_left
abbrev Bx:=@Int.ediv_le_self
abbrev By:=@List.any_eq_false
abbrev Bz:=@List.append_toArray
abbrev BA:=@List.getElem_set_ne
abbrev BB:=@List.length_eq_one_iff
abbrev BC:=@List.pairwise_map
abbrev BD:=@List.push_toArray
abbrev BE:=@Nat.add_assoc
abbrev DV:=@Array.getElem?_eq_getElem
abbrev DW:=@Array.getElem?_push
abbrev DX:=@Bool.not_eq_true'
abbrev D3:=@Int.add_mul_emod_self_left
abbrev D4:=@Int.mul_lt_mul_of_pos_right
abbrev D5:=@Int.natCast_ediv
abbrev D6:=@List.append_of_mem
abbrev D7:=@List.filter_congr
abbrev D8:=@List.filter_cons_of_neg
abbrev D9:=@List.getElem_take
abbrev Ea:=@List.length_set
abbrev Eb:=@List.map_toArray
abbrev Ec:=@List.mem_toArray
abbrev Ee:=@Nat.add_sub_cancel
abbrev Ef:=@Nat.div_le_self
abbrev Ib:=@Array.getD_eq_getD_getElem?
abbrev Ig:=@Int.fdiv_eq_ediv_of_nonneg
abbrev Ih:=@Int.tdiv_eq_ediv_of_nonneg
abbrev Ii:=@Int.tmod_eq_emod_of_nonneg
abbrev Ik:=@List.filter_cons_of_pos
abbrev Il:=@List.find?_eq_none
abbrev Im:=@List.singleton_append
abbrev In:=@Nat.le_div_iff_mul_le
abbrev Io:=@Nat.testBit_two_pow
abbrev Iq:=@Option.isSome_some
abbrev Nj:=@Array.getElem?_setIfInBounds_ne
abbrev No:=@List.length_eq_zero_iff
abbrev axa:=(List (List Int)×Unit)×(List (List Int)×Unit)×List Int×Unit
abbrev axb:=Int×(List (List Int)×Unit)×(List (List Int)×Unit)×Unit
abbrev axc:=(List (List Int)×Unit)×(List (List Int)×Unit)×Unit
abbrev axd:=List Int×(Option (List (List Int)×Unit)×Unit)×Unit
abbrev axe:=Int×(List (List Int)×Unit)×List (List Bool)×Unit
abbrev axf:=(List (List Int)×Unit)×List (List Bool)×Unit
abbrev axg:=Int×(List (List Bool)×(List Bool×Unit))×Unit
abbrev axh:=(List (List Bool)×(List Bool×Unit))×Unit
abbrev axi:=(Int×List Bool×Unit)⊕(Unit⊕(Bool×Unit))
abbrev axj:=(Int×List Bool×Unit)⊕(List Bool×Unit)
abbrev axk:=(List (List Int)×Unit)×List Int×Unit
abbrev axl:=Unit⊕((Int×Unit)⊕(Unit⊕(Int×Unit)))
abbrev axm:=Int×(List Int×(List Int×Unit))×Unit
abbrev axo:=(Int×Int×Unit)⊕(Unit⊕(Bool×Unit))
abbrev axp:=List (List Bool)×(List Bool×Unit)
abbrev axq:=(List Int×(List Int×Unit))×Unit
abbrev axr:=(List (List Int)×Unit)×Int×Unit
abbrev axs:=(Int×Unit)⊕(Unit⊕(Int×Unit))
abbrev axt:=(List (List Int)×Unit)×Unit
abbrev axu:=Int×List (List Bool)×Unit
abbrev axv:=List Int×(List Int×Unit)
abbrev axw:=List (List Int)×Int×Unit
abbrev axx:=List (List Bool)×Unit
abbrev axy:=List (List Int)×Unit
abbrev axz:=Int×List Bool×Unit
abbrev axA:=List Int×Int×Unit
abbrev axB:=Int×List Int×Unit
abbrev axC:=Nat×Nat×List Nat
abbrev axD:=Unit⊕(Bool×Unit)
abbrev axE:=Unit⊕(Int×Unit)
abbrev axF:=List Bool×Unit
abbrev axG:=Int×Bool×Unit
abbrev axH:=List Int×Unit
abbrev axI:=Bool×Int×Unit
abbrev axJ:=Int×Int×Unit
abbrev axK:=Bool×Unit
abbrev axL:=Int×Unit
abbrev axM:=Nat×Nat
noncomputable section
namespace Go.lP
inductive du where
 |cD
 |ey
 deriving DecidableEq
inductive aq where
 |int (k:IntKind)
 |bool
 |str
 |bJ (m:du) (t:aq)
 |ptr (m:du) (t:aq)
 |osl (t:aq)
 |optr (t:aq)
 |st (t:aq)
 |pr (a b:aq)
 |nil
 |dw
 |mp (t:aq)
 |ee (m:du) (t:aq)
 deriving DecidableEq
def aq.size:aq->Nat
 |.pr a b=>a.size+b.size
 |.st t=>t.size
 |.nil|.dw=>0
 |_=>1
@[reducible] def aq.den:aq->Type
 |.int _=>Int
 |.bool=>Bool
 |.str=>ByteArray
 |.bJ _ t=>List t.den
 |.ptr _ t=>Option t.den
 |.osl t=>List t.den
 |.optr t=>t.den
 |.st t=>t.den
 |.pr a b=>a.den×b.den
 |.nil=>Unit
 |.dw=>Unit
 |.mp t=>Option (List (Int×t.den)×Nat)
 |.ee _ t=>Option (List (Int×t.den)×Nat)
def lf {α:Type} (L:List (Int×Nat×α)) (l:List (Int×α)) (c:Nat):Prop:=
 l.Pairwise (fun a b=>a.1<b.1)/\(L.map fun q=>(q.1,q.2.2)).Perm l/\(L.map fun q=>q.2.1).Nodup/\∀q∈L,q.2.1<c
def cH:aq->List Value->Value
 |.st _,cs=>.agg cs.toArray
 |_,cs=>cs.headD undef
def es (w:World) (b o:Nat) (cs:List Value):Prop:=∀j v,cs[j]?=some v->w.cell? ⟨b,o+j,none⟩=some v
def jR (w:World) (b lo hi:Nat):Prop:=∀j,lo<=j->j<hi->(w.cell? ⟨b,j,none⟩).isSome=true/\w.frozen? ⟨b,j,none⟩=false
def jy (w:World) (b:Nat):Option (Array MapEntry×Nat):=match w.heap[b]? with
 |some (.map bG c)=>some (bG,c)
 |_=>none
def c3 (w w':World) (b:Nat):Prop:=(∀j,w'.cell? ⟨b,j,none⟩=w.cell? ⟨b,j,none⟩/\w'.frozen? ⟨b,j,none⟩=w.frozen? ⟨b,j,none⟩)/\jy w' b=jy w b
theorem c3.refl (w:World) (b:Nat):c3 w w b:=⟨fun _=>⟨rfl,rfl⟩,rfl⟩
theorem c3.of_heap {w w':World} {b:Nat} (h:w'.heap[b]?=w.heap[b]?):c3 w w' b:=
 ⟨fun j=>⟨World.cell?_of_block (a:=⟨b,j,none⟩) h,World.frozen?_of_block (a:=⟨b,j,none⟩) h⟩,by unfold jy;rw[h]⟩
def lO (w w':World) (b:Nat):Prop:=∀bG c,jy w b=some (bG,c)->∃es' c',jy w' b=some (es',c')/\c<=c'/\∀(i:Nat) (e:MapEntry),es'[i]?=some e->e.born<c->∃(j:Nat) (ep:MapEntry),bG[j]?=some ep/\ep.key=e.key/\ep.born=e.born
theorem lO.of_eq {w w':World} {b:Nat} (h:jy w' b=jy w b):lO w w' b:=
 fun bG c ao=>⟨bG,c,h.trans ao,bS _,fun i e aE _=>⟨i,e,aE,rfl,rfl⟩⟩
theorem lO.refl (w:World) (b:Nat):lO w w b:=.of_eq rfl
theorem lO.of_heap {w w':World} {b:Nat} (h:w'.heap[b]?=w.heap[b]?):lO w w' b:=.of_eq (c3.of_heap h).2
theorem lO.trans {w w' ab6:World} {b:Nat} (h:lO w w' b) (a2:lO w' ab6 b):lO w ab6 b:=fun bG c ao=>by obtain⟨es',c',J,R,ae⟩:=h bG c ao;obtain⟨Fu,cd,bu,bE,cl⟩:=a2 es' c' J;refine⟨Fu,cd,bu,eu R bE,fun i e aE hc=>?_⟩;obtain⟨j,ep,aK,aL,a8⟩:=cl i e aE (by omega);obtain⟨r7,aC,bX,bn,a9⟩:=ae j ep aK (by omega);exact⟨r7,aC,bX,bn.trans aL,a9.trans a8⟩
theorem es.eB {w w':World} {b o:Nat} {cs:List Value} (h:es w b o cs) (hs:c3 w w' b):es w' b o cs:=
 fun j v al=>by rw[(hs.1 _).1];exact h j v al
theorem jR.eB {w w':World} {b lo hi:Nat} (h:jR w b lo hi) (hs:c3 w w' b):jR w' b lo hi:=
 fun j J R=>by rw[(hs.1 _).1,(hs.1 _).2];exact h j J R
def bi (M:du->Nat->Prop) (w:World):(τ:aq)->List Value->τ.den->List Nat->Prop
 |.int k,cs,n,fp=>fp=[]/\cs=[.int k n]
 |.bool,cs,b,fp=>fp=[]/\cs=[.bool b]
 |.str,cs,s,fp=>fp=[]/\cs=[.string s]
 |.bJ m t,cs,xs,fp=>fp=[]/\∃a cap,cs=[.slice a xs.length cap]/\xs.length<=cap/\(a=none->cap=0)/\(xs=[]\/∃b o,a=some ⟨b,o,none⟩/\M m b/\∀i x,xs[i]?=some x->∃ds,ds.length=t.size/\es w b (o+i*t.size) ds/\bi M w t ds x [])
 |.ptr m t,cs,x,fp=>fp=[]/\match x with
  |none=>cs=[.pointer none]
  |some y=>∃b o ds,cs=[.pointer (some ⟨b,o,none⟩)]/\M m b/\ds.length=t.size/\es w b o ds/\bi M w t ds y []
 |.osl t,cs,xs,fp=>∃a cap,cs=[.slice a xs.length cap]/\((
   a=none/\xs=[]/\cap=0/\fp=[])\/∃(b o:Nat) (dI:List (List Nat)),a=some ⟨b,o,none⟩/\fp=b::dI.flatten/\dI.length=xs.length/\xs.length<=cap/\
   jR w b o (o+cap*t.size)/\∀i x f,xs[i]?=some x->dI[i]?=some f->∃ds,ds.length=t.size/\es w b (o+i*t.size) ds/\bi M w t ds x f)
 |.optr t,cs,y,fp=>∃b o f ds,cs=[.pointer (some ⟨b,o,none⟩)]/\fp=b::f/\ds.length=t.size/\es w b o ds/\jR w b o (o+t.size)/\bi M w t ds y f
 |.st t,cs,x,fp=>bi M w t cs x fp
 |.pr a b,cs,x,fp=>∃f1 cC,fp=f1++cC/\bi M w a (cs.take a.size) x.1 f1/\bi M w b (cs.drop a.size) x.2 cC
 |.nil,cs,_,fp=>fp=[]/\cs=[]
 |.dw,cs,_,_=>cs=[]
 |.mp t,cs,x,fp=>match x with
  |none=>fp=[]/\cs=[.map none]
  |some (l,c)=>∃(b:Nat) (bG:Array MapEntry) (L:List (Int×Nat×t.den)),cs=[.map (some b)]/\fp=[b]/\lf L l c/\jy w b=some (bG,c)/\bG.size=L.length/\∀(i:Nat) (q:Int×Nat×t.den),L[i]?=some q->∃ds:List Value,ds.length=t.size/\bG[i]?=some (MapEntry.mk (.int .i64 q.1) (cH t ds) q.2.1)/\bi M w t ds q.2.2 []
 |.ee m t,cs,x,fp=>match x with
  |none=>fp=[]/\cs=[.map none]
  |some (l,c)=>∃(b:Nat) (bG:Array MapEntry) (L:List (Int×Nat×t.den)),cs=[.map (some b)]/\fp=[]/\lf L l c/\M m b/\jy w b=some (bG,c)/\bG.size=L.length/\∀(i:Nat) (q:Int×Nat×t.den),L[i]?=some q->∃ds:List Value,ds.length=t.size/\bG[i]?=some (MapEntry.mk (.int .i64 q.1) (cH t ds) q.2.1)/\bi M w t ds q.2.2 []
theorem bi.len {M:du->Nat->Prop} {w:World}:∀{τ:aq} {cs:List Value} {x:τ.den} {fp:List Nat},bi M w τ cs x fp->cs.length=τ.size
 |.int _,_,_,_,h=>by rw[h.2];rfl
 |.bool,_,_,_,h=>by rw[h.2];rfl
 |.str,_,_,_,h=>by rw[h.2];rfl
 |.bJ _ _,_,_,_,h=>by obtain⟨_,a,cap,h,_⟩:=h;rw[h];rfl
 |.ptr _ _,_,x,_,h=>by
  obtain⟨_,h⟩:=h;cases x with
  |none=>simp only at h;rw[h];rfl
  |some y=>obtain⟨b,o,ds,h,_⟩:=h;rw[h];rfl
 |.osl _,_,_,_,h=>by obtain⟨a,cap,h,_⟩:=h;rw[h];rfl
 |.optr _,_,_,_,h=>by obtain⟨a,cap,f,ds,h,_⟩:=h;rw[h];rfl
 |.st t,_,_,_,h=>bi.len (τ:=t) h
 |.pr a b,cs,_,_,h=>by obtain⟨f1,cC,_,J,R⟩:=h;have da:=bi.len (τ:=a) J;have l2:=bi.len (τ:=b) R;simp only[fl,pe] at da l2;show cs.length=a.size+b.size;omega
 |.nil,_,_,_,h=>by rw[h.2];rfl
 |.dw,_,_,_,h=>by rw[show _=[] from h];rfl
 |.mp t,_,x,_,h=>by
  cases x with
  |none=>rw[h.2];rfl
  |some q=>obtain⟨b,bG,L,h,_⟩:=h;rw[h];rfl
 |.ee m t,_,x,_,h=>by
  cases x with
  |none=>rw[h.2];rfl
  |some q=>obtain⟨b,bG,L,h,_⟩:=h;rw[h];rfl
theorem bi.one {M:du->Nat->Prop} {w:World}:∀{τ:aq} {cs:List Value} {x:τ.den} {fp:List Nat},bi M w τ cs x fp->∀v∈cs,v.oneCell'=true
 |.int _,_,_,_,h=>by rw[h.2];simp[Value.oneCell']
 |.bool,_,_,_,h=>by rw[h.2];simp[Value.oneCell']
 |.str,_,_,_,h=>by rw[h.2];simp[Value.oneCell']
 |.bJ _ _,_,_,_,h=>by obtain⟨_,a,cap,h,_⟩:=h;rw[h];simp[Value.oneCell']
 |.ptr _ _,_,x,_,h=>by
  obtain⟨_,h⟩:=h;cases x with
  |none=>simp only at h;rw[h];simp[Value.oneCell']
  |some y=>obtain⟨b,o,ds,h,_⟩:=h;rw[h];simp[Value.oneCell']
 |.osl _,_,_,_,h=>by obtain⟨a,cap,h,_⟩:=h;rw[h];simp[Value.oneCell']
 |.optr _,_,_,_,h=>by obtain⟨a,cap,f,ds,h,_⟩:=h;rw[h];simp[Value.oneCell']
 |.st t,_,_,_,h=>bi.one (τ:=t) h
 |.pr a b,cs,_,_,h=>by
  obtain⟨f1,cC,_,J,R⟩:=h;have da:=bi.one (τ:=a) J;have l2:=bi.one (τ:=b) R;intro v hv;rw[<-pf a.size cs] at hv;rcases fe.1 hv with hv|hv
  ·exact da v hv
  ·exact l2 v hv
 |.nil,_,_,_,h=>by rw[h.2];simp
 |.dw,_,_,_,h=>by rw[show _=[] from h];simp
 |.mp t,_,x,_,h=>by
  cases x with
  |none=>rw[h.2];simp[Value.oneCell']
  |some q=>obtain⟨b,bG,L,h,_⟩:=h;rw[h];simp[Value.oneCell']
 |.ee m t,_,x,_,h=>by
  cases x with
  |none=>rw[h.2];simp[Value.oneCell']
  |some q=>obtain⟨b,bG,L,h,_⟩:=h;rw[h];simp[Value.oneCell']
theorem bi.mono {M et:du->Nat->Prop} {w w':World} (bC:∀m b,M m b->et m b/\c3 w w' b):∀{τ:aq} {cs:List Value} {x:τ.den} {fp:List Nat},bi M w τ cs x fp->(∀b∈fp,c3 w w' b)->bi et w' τ cs x fp
 |.int _,_,_,_,h,_=>h
 |.bool,_,_,_,h,_=>h
 |.str,_,_,_,h,_=>h
 |.bJ m t,_,xs,_,h,_=>by obtain⟨aU,a,cap,J,R,ae,aI⟩:=h;refine⟨aU,a,cap,J,R,ae,aI.imp id ?_⟩;rintro⟨b,o,aG,aa,ab⟩;refine⟨b,o,aG,(bC m b aa).1,fun i x hi=>?_⟩;obtain⟨ds,cJ,cz,cX⟩:=ab i x hi;exact⟨ds,cJ,cz.eB (bC m b aa).2,bi.mono bC cX (by simp)⟩
 |.ptr m t,_,x,_,h,_=>by
  obtain⟨aU,h⟩:=h;refine⟨aU,?_⟩;cases x with
  |none=>exact h
  |some y=>
   obtain⟨b,o,ds,J,R,ae,aI,aX⟩:=h;exact⟨b,o,ds,J,(bC m b R).1,ae,aI.eB (bC m b R).2,bi.mono bC aX (by simp)⟩
 |.osl t,_,xs,fp,h,aF=>by obtain⟨a,cap,J,R⟩:=h;refine⟨a,cap,J,R.imp id ?_⟩;rintro⟨b,o,dI,aG,nx,ah,hc,hC,ab⟩;have aa:c3 w w' b:=aF b (by rw[nx];simp);refine⟨b,o,dI,aG,nx,ah,hc,hC.eB aa,fun i x f hi WV=>?_⟩;obtain⟨ds,cJ,cz,cX⟩:=ab i x f hi WV;refine⟨ds,cJ,cz.eB aa,bi.mono bC cX (fun c hc=>aF c ?_)⟩;rw[nx];exact f6 _ (kN.2 ⟨f,nQ WV,hc⟩)
 |.optr t,_,_,_,h,aF=>by obtain⟨b,o,f,ds,J,R,ae,aI,aX,bI⟩:=h;have aa:c3 w w' b:=aF b (by rw[R];simp);exact⟨b,o,f,ds,J,R,ae,aI.eB aa,aX.eB aa,bi.mono bC bI (fun c hc=>aF c (by rw[R];exact f6 _ hc))⟩
 |.st t,_,_,_,h,aF=>bi.mono (τ:=t) bC h aF
 |.pr a b,cs,_,_,h,aF=>by obtain⟨f1,cC,nx,J,R⟩:=h;exact⟨f1,cC,nx,bi.mono (τ:=a) bC J (fun c hc=>aF c (by rw[nx];exact rh _ hc)),bi.mono (τ:=b) bC R (fun c hc=>aF c (by rw[nx];exact oH _ hc))⟩
 |.nil,_,_,_,h,_=>h
 |.dw,_,_,_,h,_=>h
 |.mp t,_,x,fp,h,aF=>by
  cases x with
  |none=>exact h
  |some q=>
   obtain⟨b,bG,L,J,R,eQ,ae,aI,aX⟩:=h;refine⟨b,bG,L,J,R,eQ,(aF b (by rw[R];simp)).2.trans ae,aI,fun i q hi=>?_⟩;obtain⟨ds,cJ,cz,cX⟩:=aX i q hi;exact⟨ds,cJ,cz,bi.mono bC cX (by simp)⟩
 |.ee m t,_,x,fp,h,aF=>by
  cases x with
  |none=>exact h
  |some q=>
   obtain⟨b,bG,L,J,R,eQ,aa,ae,aI,aX⟩:=h;refine⟨b,bG,L,J,R,eQ,(bC m b aa).1,(bC m b aa).2.2.trans ae,aI,fun i q hi=>?_⟩;obtain⟨ds,cJ,cz,cX⟩:=aX i q hi;exact⟨ds,cJ,cz,bi.mono bC cX (by simp)⟩
def aq.gd:aq->Bool
 |.dw=>false
 |.bJ _ t|.ptr _ t|.osl t|.optr t|.st t|.mp t|.ee _ t=>t.gd
 |.pr a b=>a.gd&&b.gd
 |_=>true
theorem bi.uniq {M:du->Nat->Prop} {w:World}:∀{τ:aq} {cs:List Value} {x y:τ.den} {f g:List Nat},τ.gd=true->bi M w τ cs x f->bi M w τ cs y g->f=g
 |.int _,_,_,_,_,_,_,h,a2=>h.1.trans a2.1.symm
 |.bool,_,_,_,_,_,_,h,a2=>h.1.trans a2.1.symm
 |.str,_,_,_,_,_,_,h,a2=>h.1.trans a2.1.symm
 |.bJ _ _,_,_,_,_,_,_,h,a2=>h.1.trans a2.1.symm
 |.ptr _ _,_,_,_,_,_,_,h,a2=>h.1.trans a2.1.symm
 |.nil,_,_,_,_,_,_,h,a2=>h.1.trans a2.1.symm
 |.dw,_,_,_,_,_,aa,_,_=>by cases aa
 |.ee m t,cs,x,y,f,g,_,h,a2=>by
  have e:∀{x:(aq.ee m t).den} {f:List Nat},bi M w (.ee m t) cs x f->f=[]:=fun{x f} h=>by
   cases x with
   |none=>exact h.1
   |some q=>obtain⟨b,bG,L,_,R,_⟩:=h;exact R
  rw[e h,e a2]
 |.mp t,_,x,y,_,_,_,h,a2=>by
  cases x with
  |none=>
   cases y with
   |none=>exact h.1.trans a2.1.symm
   |some gH=>
    obtain⟨b,bG,L,J,_⟩:=a2;have:=h.2.symm.trans J;simp at this
  |some q=>
   obtain⟨b,bG,L,J,R,_⟩:=h;cases y with
   |none=>
    have:=J.symm.trans a2.2;simp at this
   |some gH=>
    obtain⟨cP,es',hW,nr,KT,_⟩:=a2;have:=J.symm.trans nr;simp only[hh,Value.map.injEq,cI,and_true] at this;rw[R,KT,this]
 |.st t,_,_,_,_,_,aa,h,a2=>bi.uniq (τ:=t) aa h a2
 |.pr a b,_,_,_,_,_,aa,h,a2=>by simp only[aq.gd,bM] at aa;obtain⟨f1,cC,rfl,J,R⟩:=h;obtain⟨bT,bz,rfl,ae,aI⟩:=a2;rw[bi.uniq (τ:=a) aa.1 J ae,bi.uniq (τ:=b) aa.2 R aI]
 |.optr t,_,_,_,_,_,aa,h,a2=>by
  obtain⟨b,o,f,ds,J,rfl,ae,aI,_,bI⟩:=h;obtain⟨cP,bL,hM,iu,nr,rfl,Wm,FE,_,iO⟩:=a2;rw[J] at nr;simp only[hh,Value.pointer.injEq,cI,Addr.mk.injEq,and_true] at nr;obtain⟨rfl,rfl⟩:=nr;obtain rfl:ds=iu:=by
   apply jj;intro j;rcases ch j ds.length with al|al
   ·have aK:=aI j ds[j] (by simp[al]);have aL:=FE j (iu[j]'(by omega)) (by simp)
    rw[aK] at aL;simp only[cI] at aL;rw[ct al,ct (by omega),aL]
   ·rw[gy al,gy (by omega)]
  rw[bi.uniq (τ:=t) aa bI iO]
 |.osl t,_,x,y,_,_,aa,h,a2=>by
  obtain⟨a,cap,J,R⟩:=h;obtain⟨b2,fy,nr,KT⟩:=a2;rw[J] at nr;simp only[hh,Value.slice.injEq,and_true] at nr;obtain⟨rfl,ah,rfl⟩:=nr;rcases R with⟨rfl,rfl,rfl,rfl⟩|⟨b,o,dI,rfl,rfl,aK,aL,a8,bH⟩
  ·rcases KT with⟨_,rfl,_,rfl⟩|⟨b,o,dI,aU,_⟩
   ·rfl
   ·cases aU
  ·rcases KT with⟨aU,_⟩|⟨cP,bL,O0,aU,rfl,awZ,aw0,aw1,asp⟩
   ·cases aU
   ·simp only[cI,Addr.mk.injEq,and_true] at aU;obtain⟨rfl,rfl⟩:=aU;have:dI=O0:=by
     apply jj;intro j;rcases ch j x.length with al|al
     ·have aC:dI[j]?=some (dI[j]'(by omega)):=ct (by omega)
      have aV:O0[j]?=some (O0[j]'(by omega)):=ct (by omega)
      obtain⟨ds,cJ,cz,cX⟩:=bH j x[j] _ (by simp[al]) aC;obtain⟨iu,av9,ahP,ahQ⟩:=asp j (y[j]'(by omega)) _ (by simp) aV
      obtain rfl:ds=iu:=by
       apply jj;intro k;rcases ch k ds.length with ac|ac
       ·have bX:=cz k ds[k] (by simp[ac]);have bn:=ahP k (iu[k]'(by omega)) (by simp)
        rw[bX] at bn;simp only[cI] at bn;rw[ct ac,ct (by omega),bn]
       ·rw[gy ac,gy (by omega)]
      rw[aC,aV,bi.uniq (τ:=t) aa cX ahQ]
     ·rw[gy (by omega),gy (by omega)]
    rw[this]
inductive bw where
 |idx (i:Nat)
 |deref
 |unst
 |fst
 |snd
 deriving DecidableEq
def dr:(τ:aq)->τ.den->List bw->(τ':aq)->τ'.den->Prop
 |τ,x,[],τ',y=>∃h:τ=τ',h▸x=y
 |.osl t,xs,.idx i::p,τ',y=>∃e,xs[i]?=some e/\dr t e p τ' y
 |.optr t,x,.deref::p,τ',y=>dr t x p τ' y
 |.st t,x,.unst::p,τ',y=>dr t x p τ' y
 |.pr a _,x,.fst::p,τ',y=>dr a x.1 p τ' y
 |.pr _ b,x,.snd::p,τ',y=>dr b x.2 p τ' y
 |_,_,_,_,_=>False
def ea:(τ:aq)->τ.den->List bw->(τ':aq)->τ'.den->τ.den->Prop
 |τ,_,[],τ',y,ht=>∃h:τ=τ',h▸ht=y
 |.osl t,xs,.idx i::p,τ',y,avh=>∃e dy,xs[i]?=some e/\ea t e p τ' y dy/\avh=xs.set i dy
 |.optr t,x,.deref::p,τ',y,ht=>ea t x p τ' y ht
 |.st t,x,.unst::p,τ',y,ht=>ea t x p τ' y ht
 |.pr a _,x,.fst::p,τ',y,ht=>∃dy,ea a x.1 p τ' y dy/\ht=(dy,x.2)
 |.pr _ b,x,.snd::p,τ',y,ht=>∃dy,ea b x.2 p τ' y dy/\ht=(x.1,dy)
 |_,_,_,_,_,_=>False
theorem dr.fH {τ:aq} {x:τ.den} {τ':aq} {y:τ'.den}:dr τ x [] τ' y↔∃h:τ=τ',h▸x=y:=by cases τ<;>exact Iff.rfl
theorem ea.fH {τ:aq} {x ht:τ.den} {τ':aq} {y:τ'.den}:ea τ x [] τ' y ht↔∃h:τ=τ',h▸ht=y:=by cases τ<;>exact Iff.rfl
abbrev Loc:=Option axM
def bk (w:World):(τ:aq)->Loc->List Value->List bw->(τ':aq)->Loc->List Value->Prop
 |τ,loc,cs,[],τ',dE,b3=>τ=τ'/\loc=dE/\cs=b3
 |.osl t,_,cs,.idx i::p,τ',dE,b3=>∃b o len cap ds,cs=[.slice (some ⟨b,o,none⟩) len cap]/\i<len/\ds.length=t.size/\es w b (o+i*t.size) ds/\bk w t (some (b,o+i*t.size)) ds p τ' dE b3
 |.optr t,_,cs,.deref::p,τ',dE,b3=>∃b o ds,cs=[.pointer (some ⟨b,o,none⟩)]/\ds.length=t.size/\es w b o ds/\bk w t (some (b,o)) ds p τ' dE b3
 |.st t,loc,cs,.unst::p,τ',dE,b3=>bk w t loc cs p τ' dE b3
 |.pr a _,loc,cs,.fst::p,τ',dE,b3=>bk w a loc (cs.take a.size) p τ' dE b3
 |.pr a b,loc,cs,.snd::p,τ',dE,b3=>bk w b (loc.map fun q=>(q.1,q.2+a.size)) (cs.drop a.size) p τ' dE b3
 |_,_,_,_,_,_,_=>False
theorem es.eq {w:World} {b o:Nat} {cs ds:List Value} (h:es w b o cs) (a2:es w b o ds) (ah:cs.length=ds.length):cs=ds:=by
 apply jj;intro j;rcases ch j cs.length with al|al
 ·have J:=h j cs[j] (by simp[al]);have R:=a2 j (ds[j]'(by omega)) (by simp)
  rw[J] at R;simp only[cI] at R;rw[ct al,ct (by omega),R]
 ·rw[gy al,gy (by omega)]
theorem bk.jX {w:World}:∀{p:List bw} {τ:aq} {loc:Loc} {cs:List Value} {t1 t2:aq} {da l2:Loc} {c4 cd:List Value},bk w τ loc cs p t1 da c4->bk w τ loc cs p t2 l2 cd->t1=t2/\da=l2/\c4=cd
 |[],τ,loc,cs,_,_,_,_,_,_,J,R=>by simp only[bk] at J R;exact⟨J.1.symm.trans R.1,J.2.1.symm.trans R.2.1,J.2.2.symm.trans R.2.2⟩
 |s::p,τ,loc,cs,_,_,_,_,_,_,J,R=>by
  cases τ<;>cases s<;>simp only[bk] at J R
  case osl.idx t i=>
   obtain⟨b,o,len,cap,ds,aC,_,da,cq,om⟩:=J;obtain⟨cP,bL,vr,fy,iu,aV,_,l2,dv,lF⟩:=R;rw[aC] at aV;simp only[hh,Value.slice.injEq,cI,Addr.mk.injEq,and_true] at aV;obtain⟨⟨rfl,rfl⟩,rfl,rfl⟩:=aV;obtain rfl:=cq.eq dv (by omega);exact bk.jX om lF
  case optr.deref t=>
   obtain⟨b,o,ds,aC,da,cq,om⟩:=J;obtain⟨cP,bL,iu,aV,l2,dv,lF⟩:=R;rw[aC] at aV;simp only[hh,Value.pointer.injEq,cI,Addr.mk.injEq,and_true] at aV;obtain⟨rfl,rfl⟩:=aV;obtain rfl:=cq.eq dv (by omega);exact bk.jX om lF
  case st.unst t=>exact bk.jX J R
  case pr.fst a b=>exact bk.jX J R
  case pr.snd a b=>exact bk.jX J R
def ww (w w':World) (loc:Loc) (n:Nat) (b:Nat):Prop:=
 (∀j,(∀o,loc=some (b,o)->j<o\/o+n<=j)->w'.cell? ⟨b,j,none⟩=w.cell? ⟨b,j,none⟩)/\
 (∀j,w'.frozen? ⟨b,j,none⟩=w.frozen? ⟨b,j,none⟩)/\(∀j,(w'.cell? ⟨b,j,none⟩).isSome=(w.cell? ⟨b,j,none⟩).isSome)/\jy w' b=jy w b
theorem ww.eB {w w':World} {loc:Loc} {n b:Nat} (h:ww w w' loc n b) (ah:∀o,loc≠some (b,o)):c3 w w' b:=
 ⟨fun j=>⟨h.1 j (fun o aH=>absurd aH (ah o)),h.2.1 j⟩,h.2.2.2⟩
theorem ww.O2 {w w':World} {loc:Loc} {n b lo hi:Nat} (h:ww w w' loc n b) (aF:jR w b lo hi):jR w' b lo hi:=
 fun j J R=>by rw[h.2.1,h.2.2.1];exact aF j J R
def sM (w:World) (loc:Loc) (cs:List Value) (n:Nat):Prop:=∀b o,loc=some (b,o)->es w b o cs/\jR w b o (o+n)
theorem es.take {w:World} {b o n:Nat} {cs:List Value} (h:es w b o cs):es w b o (cs.take n):=fun j v al=>by
 rw[yL] at al;split at al
 ·exact h j v al
 ·cases al
theorem es.drop {w:World} {b o n:Nat} {cs:List Value} (h:es w b o cs):es w b (o+n) (cs.drop n):=fun j v al=>by rw[ng] at al;have:=h (n+j) v al;rwa[<-BE] at this
theorem es.append {w:World} {b o:Nat} {cs ds:List Value} (h:es w b o cs) (a2:es w b (o+cs.length) ds):es w b o (cs++ds):=fun j v al=>by
 rw[List.getElem?_append] at al;split at al
 ·exact h j v al
 ·have:=a2 _ v al;rwa[show o+cs.length+(j-cs.length)=o+j by omega] at this
theorem at1 {α:Type} {l:List α} {i:Nat} {x:α} (h:l[i]?=some x):∃pre post,l=pre++x::post/\pre.length=i:=by obtain⟨hi,rfl⟩:=e9.1 h;exact⟨l.take i,l.drop (i+1),by rw[List.getElem_cons_drop,pf],by simp;omega⟩
theorem bk.eB {M:du->Nat->Prop} {w w':World}:∀{p:List bw} {τ:aq} {loc:Loc} {cs:List Value} {x:τ.den} {fp:List Nat} {τ':aq} {dE:Loc} {b3:List Value},bi M w τ cs x fp->(∀b∈fp,c3 w w' b)->bk w τ loc cs p τ' dE b3->bk w' τ loc cs p τ' dE b3
 |[],τ,_,_,_,_,_,_,_,_,_,h=>by cases τ<;>exact h
 |s::p,τ,loc,cs,x,fp,τ',dE,b3,hr,hs,h=>by
  cases τ<;>cases s<;>simp only[bk] at h
  case osl.idx t i=>
   obtain⟨b,o,len,cap,ds,rfl,hi,ah,aG,ag⟩:=h;obtain⟨a,fy,J,R⟩:=hr;simp only[hh,Value.slice.injEq,and_true] at J;obtain⟨rfl,rfl,rfl⟩:=J;rcases R with⟨aU,_⟩|⟨cP,bL,dI,aU,rfl,aK,aL,a8,bH⟩
   ·cases aU
   ·simp only[cI,Addr.mk.injEq,and_true] at aU;obtain⟨rfl,rfl⟩:=aU;obtain⟨iu,cJ,cz,cX⟩:=bH i x[i] (dI[i]'(by omega)) (by simp[hi]) (by simp)
    obtain rfl:=aG.eq cz (by omega);exact⟨b,o,_,cap,ds,rfl,hi,ah,aG.eB (hs b (by simp)),bk.eB cX (fun c hc=>hs c (f6 _ (kN.2 ⟨_,dt (by omega),hc⟩))) ag⟩
  case optr.deref t=>
   obtain⟨b,o,ds,rfl,ah,aG,ag⟩:=h;obtain⟨cP,bL,hM,iu,nr,rfl,Wm,FE,_,iO⟩:=hr;simp only[hh,Value.pointer.injEq,cI,Addr.mk.injEq,and_true] at nr;obtain⟨rfl,rfl⟩:=nr;obtain rfl:=aG.eq FE (by omega);exact⟨b,o,ds,rfl,ah,aG.eB (hs b (by simp)),bk.eB iO (fun c hc=>hs c (by simp[hc])) ag⟩
  case st.unst t=>exact bk.eB (τ:=t) hr hs h
  case pr.fst a b=>
   obtain⟨f1,cC,rfl,J,R⟩:=hr;exact bk.eB (τ:=a) J (fun c hc=>hs c (by simp[hc])) h
  case pr.snd a b=>
   obtain⟨f1,cC,rfl,J,R⟩:=hr;exact bk.eB (τ:=b) R (fun c hc=>hs c (by simp[hc])) h
def rU:List bw->Bool
 |[]=>false
 |.idx _::_=>true
 |.deref::_=>true
 |_::p=>rU p
def gL:List bw->List bw->Bool
 |p,[]=>rU p
 |.idx _::p,.idx _::q=>gL p q
 |.deref::p,.deref::q=>gL p q
 |.unst::p,.unst::q=>gL p q
 |.fst::p,.fst::q=>gL p q
 |.snd::p,.snd::q=>gL p q
 |.fst::_,.snd::_=>true
 |.snd::_,.fst::_=>true
 |_,_=>false
theorem bk.pW {w:World} {τ τ':aq} {l l':Loc} {cs b3:List Value}:bk w τ l cs [] τ' l' b3↔τ=τ'/\l=l'/\cs=b3:=by cases τ<;>exact Iff.rfl
def lX:List bw->List bw->Bool
 |.deref::p,.deref::q=>lX p q
 |.unst::p,.unst::q=>lX p q
 |.fst::p,.fst::q=>lX p q
 |.snd::p,.snd::q=>lX p q
 |.fst::_,.snd::_=>true
 |.snd::_,.fst::_=>true
 |_,_=>false
theorem zx (q:List bw):lX [] q=false:=by cases q<;>rfl
theorem Ko:∀{p q:List bw},lX p q=true->gL p q=true
 |[],q,h=>by rw[zx] at h;cases h
 |s::p,[],h=>by cases s<;>cases h
 |s::p,s'::q,h=>by cases s<;>cases s'<;>first|(cases h;done)|exact Ko (p:=p) (q:=q) h|rfl
theorem zy:∀{p q:List bw} {τ:aq} {x z:τ.den} {nM f2:aq} {HW:nM.den} {dL:f2.den},lX p q=true->ea τ x p nM HW z->dr τ x q f2 dL->dr τ z q f2 dL
 |[],q,_,_,_,_,_,_,_,h,_,_=>by rw[zx] at h;cases h
 |s::p,[],_,_,_,_,_,_,_,h,_,_=>by cases s<;>cases h
 |s::p,s'::q,τ,x,z,nM,f2,HW,dL,h,J,R=>by
  cases τ<;>cases s<;>simp only[ea] at J<;>cases s'<;>first|(cases h;done)|(simp only[dr] at R;done)|skip
  case optr.deref.deref t=>exact zy (p:=p) (q:=q) (τ:=t) h J R
  case st.unst.unst t=>exact zy (p:=p) (q:=q) (τ:=t) h J R
  case pr.fst.fst a b=>
   obtain⟨e,J,rfl⟩:=J;exact zy (p:=p) (q:=q) (τ:=a) h J R
  case pr.snd.snd a b=>
   obtain⟨e,J,rfl⟩:=J;exact zy (p:=p) (q:=q) (τ:=b) h J R
  case pr.fst.snd a b=>
   obtain⟨e,J,rfl⟩:=J;exact R
  case pr.snd.fst a b=>
   obtain⟨e,J,rfl⟩:=J;exact R
theorem bi.sub {M:du->Nat->Prop} {w:World}:∀{p:List bw} {τ:aq} {loc:Loc} {cs:List Value} {x:τ.den} {fp:List Nat} {τ':aq} {y:τ'.den} {l':Loc} {c':List Value},bi M w τ cs x fp->dr τ x p τ' y->bk w τ loc cs p τ' l' c'->∃f,bi M w τ' c' y f/\∀c∈f,c∈fp
 |[],τ,loc,cs,x,fp,τ',y,l',c',hr,aD,ag=>by obtain⟨rfl,rfl⟩:=dr.fH.1 aD;obtain⟨_,_,rfl⟩:=bk.pW.1 ag;exact⟨fp,hr,fun c h=>h⟩
 |s::p,τ,loc,cs,x,fp,τ',y,l',c',hr,aD,ag=>by
  cases τ<;>cases s<;>simp only[dr] at aD<;>simp only[bk] at ag
  case osl.idx t i=>
   obtain⟨e,aE,aD⟩:=aD;obtain⟨cP,bL,vr,fy,iu,J,R,ae,aI,ag⟩:=ag;obtain⟨a,cap,rfl,hr⟩:=hr;rcases hr with⟨_,rfl,_⟩|⟨b,o,dI,rfl,rfl,dR,rV,hC,ab⟩
   ·simp at aE
   have hi:i<x.length:=(e9.1 aE).1;obtain⟨f,aF⟩:∃f,dI[i]?=some f:=⟨dI[i],ct (by omega)⟩;obtain⟨ds,l6,kw,zZ⟩:=ab i e f aE aF;simp only[hh,Value.slice.injEq,cI,Addr.mk.injEq,and_true] at J;obtain⟨⟨rfl,rfl⟩,rfl,rfl⟩:=J;obtain rfl:=aI.eq kw (by omega);obtain⟨g,bu,bE⟩:=bi.sub (p:=p) zZ aD ag;exact⟨g,bu,fun c hc=>f6 _ (kN.2 ⟨f,nQ aF,bE c hc⟩)⟩
  case optr.deref t=>
   obtain⟨cP,bL,iu,J,ae,aI,ag⟩:=ag;obtain⟨b,o,f,ds,rfl,rfl,l6,kw,hC,zZ⟩:=hr;simp only[hh,Value.pointer.injEq,cI,Addr.mk.injEq,and_true] at J;obtain⟨rfl,rfl⟩:=J;obtain rfl:=aI.eq kw (by omega);obtain⟨g,bu,bE⟩:=bi.sub (p:=p) zZ aD ag;exact⟨g,bu,fun c hc=>f6 _ (bE c hc)⟩
  case st.unst t=>exact bi.sub (p:=p) (τ:=t) hr aD ag
  case pr.fst ta tb=>
   obtain⟨f1,cC,rfl,J,R⟩:=hr;obtain⟨g,bu,bE⟩:=bi.sub (p:=p) J aD ag;exact⟨g,bu,fun c hc=>rh _ (bE c hc)⟩
  case pr.snd ta tb=>
   obtain⟨f1,cC,rfl,J,R⟩:=hr;obtain⟨g,bu,bE⟩:=bi.sub (p:=p) R aD ag;exact⟨g,bu,fun c hc=>oH _ (bE c hc)⟩
theorem FA {M:du->Nat->Prop} {w:World}:∀(p:List bw) {τ:aq} {loc:Loc} {cs:List Value} {x:τ.den} {fp:List Nat} {τ':aq} {y:τ'.den},bi M w τ cs x fp->sM w loc cs τ.size->fp.Nodup->(∀b o,loc=some (b,o)->b∉fp/\∀m,¬M m b)->(∀b∈fp,∀m,¬M m b)->dr τ x p τ' y->∃dE b3 gX dK,bk w τ loc cs p τ' dE b3/\bi M w τ' b3 y gX/\sM w dE b3 τ'.size/\fp.Perm (gX++dK)/\(∀fN dY,dE=some (fN,dY)->(∃o,loc=some (fN,o)/\o<=dY/\dY+τ'.size<=o+τ.size)\/fN∈dK)/\(∀(
   w':World) (et:du->Nat->Prop) (ir:List Value) (dL:τ'.den) (mL:List Nat) (kq:τ.den),
   (∀m b,M m b->et m b)->(∀b,(∃m,M m b)\/b∈dK\/(∃o,loc=some (b,o))->ww w w' dE τ'.size b)->
   bi et w' τ' ir dL mL->(dE=none->p≠[]->ir=b3)->(∀b o,dE=some (b,o)->es w' b o ir)->ea τ x p τ' dL kq->
   ∃fa lu,bi et w' τ fa kq lu/\(p=[]->fa=ir)/\(loc=none->(dE≠none\/ir=b3)->fa=cs)/\(∀b o,loc=some (b,o)->es w' b o fa)/\lu.Perm (mL++dK)/\bk w' τ loc fa p τ' dE ir/\∀(q:List bw) (gx:aq) (ha:Loc) (gq:List Value),gL p q=true->bk w τ loc cs q gx ha gq->bk w' τ loc fa q gx ha gq)/\
  (∀(q:List bw) (f2:aq) (dL:f2.den) (l2:Loc) (cd:List Value) (cC:List Nat),lX p q=true->f2.gd=true->dr τ x q f2 dL->bk w τ loc cs q f2 l2 cd->bi M w f2 cd dL cC->∀c∈cC,c∈dK/\∀fN dY,dE=some (fN,dY)->c≠fN):=by
 intro p
 induction p with
 |nil=>
  intro τ loc cs x fp τ' y hr ah ag aa ao aD;obtain⟨rfl,rfl⟩:=dr.fH.1 aD;refine⟨loc,cs,fp,[],(by cases τ<;>exact⟨rfl,rfl,rfl⟩),hr,ah,by simp,fun fN dY h=>.inl ⟨dY,h,by omega,by omega⟩,?_,fun q _ _ _ _ _ h=>by rw[zx] at h;cases h⟩;intro w' et ir dL mL kq _ _ e2 _ R hs;obtain⟨_,rfl⟩:=ea.fH.1 hs;exact⟨ir,mL,e2,fun _=>rfl,fun aU h=>h.resolve_left (fun q=>q aU),R,by simp,(by cases τ<;>exact⟨rfl,rfl,rfl⟩),fun q _ _ _ ac=>by cases q<;>simp[gL,rU] at ac⟩
 |cons s p aT=>
  intro τ loc cs x fp τ' y hr ah ag aa ao aD;cases τ<;>cases s<;>simp only[dr] at aD
  case osl.idx t i=>
   obtain⟨e,aE,aD⟩:=aD;obtain⟨a,cap,rfl,hr⟩:=hr;rcases hr with⟨_,rfl,_⟩|⟨b,o,dI,rfl,rfl,dR,rV,hC,ab⟩
   ·simp at aE
   have hi:i<x.length:=(e9.1 aE).1;obtain⟨f,aF⟩:∃f,dI[i]?=some f:=⟨dI[i],ct (by omega)⟩;obtain⟨ds,l6,kw,zZ⟩:=ab i e f aE aF;obtain⟨pre,post,xo,z9⟩:=at1 aF;have Cz:∀k,k<x.length->o+k*t.size+t.size<=o+cap*t.size:=fun k ac=>(by have:(k+1)*t.size<=cap*t.size:=jT _ (by omega);rw[iJ,kP] at this;omega);have fR:sM w (some (b,o+i*t.size)) ds t.size:=(by rintro cP bL h;simp only[cI,gz] at h;obtain⟨rfl,rfl⟩:=h;exact⟨kw,fun j J R=>hC j (by omega) (by have:=Cz i hi;omega)⟩);have eh:=ag;rw[xo] at eh;simp only[um,kL,lQ,kO,fe,not_or] at eh;obtain⟨⟨FJ,j0,WI⟩,l7,⟨h6,pF,alL⟩,alM⟩:=eh;obtain⟨dE,b3,gX,dK,bT,bz,cZ,cU,gD,jZ,nq⟩:=aT (loc:=some (b,o+i*t.size)) zZ fR h6 (by rintro cP bL h;simp only[cI,gz] at h;obtain⟨rfl,rfl⟩:=h;exact⟨j0,ao b (by simp)⟩) (fun c hc=>ao c (by rw[xo];simp[hc])) aD;refine⟨dE,b3,gX,b::(pre.flatten++(dK++post.flatten)),⟨b,o,_,cap,ds,rfl,hi,l6,kw,bT⟩,bz,cZ,?_,?_,?_,fun q _ _ _ _ _ h=>by cases q with|nil=>cases h|cons s' q=>cases s'<;>cases h⟩
   ·rw[xo];simp only[um,kL];rw[yN] at cU|-;intro c;have:=cU c;simp only[yI,List.count_cons] at this|-;omega
   ·intro fN dY h;right;rcases gD fN dY h with⟨bL,J,_⟩|J
    ·simp only[cI,gz] at J;rw[J.1];simp
    ·simp[J]
   ·intro w' et ir dL mL kq qx h4 e2 rY jM hs;simp only[ea] at hs;obtain⟨ep,dy,Cx,hs,rfl⟩:=hs;obtain rfl:ep=e:=(by rw[aE] at Cx;exact(ff Cx).symm);obtain⟨fa,lu,bu,_,_,bE,cl,kn,h9⟩:=jZ w' et ir dL mL dy qx (by
      rintro c (h|h|⟨bL,h⟩)
      ·exact h4 c (.inl h)
      ·exact h4 c (.inr (.inl (by simp[h])))
      ·simp only[cI,gz] at h;exact h4 c (.inr (.inl (by rw[<-h.1];simp)))) e2
     (by
      intro aU ay;exact rY aU (by simp)) jM hs
    have qz:∀fN dY,dE=some (fN,dY)->(fN=b/\o+i*t.size<=dY/\dY+τ'.size<=o+i*t.size+t.size)\/fN∈f:=by
     intro fN dY h;rcases gD fN dY h with⟨bL,J,R,ae⟩|J
     ·simp only[cI,gz] at J;obtain⟨rfl,rfl⟩:=J;exact .inl ⟨rfl,R,ae⟩
     ·exact .inr (cU.mem_iff.2 (by simp[J]))
    have xm:=h4 b (.inr (.inl (by simp)));have n5:∀m c,M m c->et m c/\c3 w w' c:=fun m c hc=>⟨qx m c hc,(h4 c (.inl ⟨m,hc⟩)).eB (fun bL h=>by
     rcases qz c bL h with⟨rfl,_⟩|J
     ·exact ao c (by simp) m hc
     ·exact ao c (by rw[xo];simp[J]) m hc)⟩
    have Xg:∀(k:Nat) (z:t.den) (g:List Nat),k≠i->x[k]?=some z->dI[k]?=some g->∀uP:List Value,uP.length=t.size->es w b (o+k*t.size) uP->es w' b (o+k*t.size) uP/\∀c∈g,c3 w w' c:=by
     intro k z g oW ac j2 uP ie fc;have awD:k<x.length:=(e9.1 ac).1;have PK:∀c∈g,c∈pre.flatten\/c∈post.flatten:=by
      intro c hc;rw[xo] at j2;rcases ch k pre.length with h|h
      ·rw[sL h] at j2;exact .inl (kN.2 ⟨g,nQ j2,hc⟩)
      ·rw[uo h] at j2;obtain⟨q,ai⟩:∃q,k-pre.length=q+1:=⟨k-pre.length-1,by omega⟩;rw[ai] at j2;simp only[uq] at j2;exact .inr (kN.2 ⟨g,nQ j2,hc⟩)
     refine⟨?_,?_⟩
     ·intro j v al;have kX:j<uP.length:=(e9.1 al).1;rw[xm.1]
      ·exact fc j v al
      ·intro dY h;rcases qz b dY h with⟨_,J,R⟩|J
       ·rcases Nat.lt_or_gt_of_ne oW with cg|La
        ·left;have:(k+1)*t.size<=i*t.size:=jT _ (by omega);rw[iJ,kP] at this;omega
        ·right;have:(i+1)*t.size<=k*t.size:=jT _ (by omega);rw[iJ,kP] at this;omega
       ·exact absurd J j0
     ·intro c hc;refine(h4 c (.inr (.inl ?_))).eB ?_
      ·rcases PK c hc with h|h<;>simp[h]
      ·intro dY h;rcases qz c dY h with⟨rfl,_⟩|J
       ·rcases PK c hc with h|h
        ·exact FJ h
        ·exact WI h
       ·rcases PK c hc with h|h
        ·exact alM c h c (.inl J) rfl
        ·exact alL c J c h rfl
    refine⟨[.slice (some ⟨b,o,none⟩) x.length cap],b::(pre++lu::post).flatten,⟨some ⟨b,o,none⟩,cap,by simp,.inr ⟨b,o,pre++lu::post,rfl,rfl,?_,by simpa using rV,xm.O2 hC,?_⟩⟩,by simp,fun _ _=>rfl,?_,?_,⟨b,o,_,cap,fa,rfl,hi,by rw[bu.len],bE b _ rfl,kn⟩,?_⟩
    ·rw[xo] at dR;simpa using dR
    ·intro k z g ac aD;by_cases oW:k=i
     ·subst oW;rw[nP hi] at ac;obtain rfl:=ff ac;rw[uo (by omega),z9,Nat.sub_self] at aD;simp only[ld,cI] at aD;subst aD;exact⟨fa,by rw[bu.len],bE b _ rfl,bu⟩
     ·rw[pd (fun h=>oW h.symm)] at ac;have j2:dI[k]?=some g:=by
       rw[xo];rcases ch k pre.length with h|h
       ·rw[sL h] at aD|-;exact aD
       ·rw[uo h] at aD|-;obtain⟨q,ai⟩:∃q,k-pre.length=q+1:=⟨k-pre.length-1,by omega⟩;rw[ai] at aD|-;simpa using aD
      obtain⟨uP,ie,fc,iS⟩:=ab k z g ac j2;obtain⟨om,lF⟩:=Xg k z g oW ac j2 uP ie fc;exact⟨uP,ie,om,iS.mono n5 lF⟩
    ·intro cP bL h;have cM:=(aa cP bL h).1;refine((ah cP bL h).1).eB ((h4 cP (.inr (.inr ⟨bL,h⟩))).eB ?_);intro dY a2;rcases qz cP dY a2 with⟨rfl,_⟩|J
     ·exact cM (by simp)
     ·exact cM (by rw[xo];simp[J])
    ·rw[yN] at cl|-;intro c;have:=cl c;simp only[um,kL,yI,List.count_cons] at this|-;omega
    ·intro q gx ha gq ac ai;cases q with
     |nil=>exact ai
     |cons s' q=>
      cases s'<;>simp only[gL] at ac<;>first|(cases ac;done)|skip
      rename_i j;obtain⟨cP,bL,vr,fy,fO,J,R,ae,aI,aX⟩:=ai;simp only[hh,Value.slice.injEq,cI,Addr.mk.injEq,and_true] at J;obtain⟨⟨rfl,rfl⟩,rfl,rfl⟩:=J;by_cases oV:j=i
      ·subst oV;obtain rfl:=aI.eq kw (by omega);exact⟨b,o,_,cap,fa,rfl,R,bu.len,bE b _ rfl,h9 q gx ha gq ac aX⟩
      ·have aZ:x[j]?=some x[j]:=ct R;have K8:dI[j]?=some (dI[j]'(by omega)):=ct _
       obtain⟨uP,ie,fc,iS⟩:=ab j _ _ aZ K8;obtain rfl:=aI.eq fc (by omega);obtain⟨om,lF⟩:=Xg j _ _ oV aZ K8 fO ae aI;exact⟨b,o,_,cap,fO,rfl,R,ae,om,bk.eB iS lF aX⟩
  case optr.deref t=>
   obtain⟨b,o,f,ds,rfl,rfl,l6,kw,hC,zZ⟩:=hr;simp only[lQ] at ag;obtain⟨zW,alP⟩:=ag;have fR:sM w (some (b,o)) ds t.size:=(by rintro cP bL h;simp only[cI,gz] at h;obtain⟨rfl,rfl⟩:=h;exact⟨kw,hC⟩);obtain⟨dE,b3,gX,dK,bT,bz,cZ,cU,gD,jZ,nq⟩:=aT (loc:=some (b,o)) zZ fR alP (by rintro cP bL h;simp only[cI,gz] at h;obtain⟨rfl,rfl⟩:=h;exact⟨zW,ao b (by simp)⟩) (fun c hc=>ao c (by simp[hc])) aD;refine⟨dE,b3,gX,b::dK,⟨b,o,ds,rfl,l6,kw,bT⟩,bz,cZ,?_,?_,?_,?_⟩
   rotate_left 3
   ·intro q f2 dL l2 cd cC h h6 h5 qD e2 c hc;cases q with
    |nil=>cases h
    |cons s' q=>
     cases s'<;>first|(cases h;done)|skip
     simp only[bk] at qD;obtain⟨cP,bL,iu,aC,b4,fo,qD⟩:=qD;simp only[hh,Value.pointer.injEq,cI,Addr.mk.injEq,and_true] at aC;obtain⟨rfl,rfl⟩:=aC;obtain rfl:=fo.eq kw (by omega);obtain⟨aK,aL⟩:=nq q f2 dL l2 cd cC h h6 h5 qD e2 c hc;exact⟨by simp[aK],aL⟩
   ·rw[yN] at cU|-;intro c;have:=cU c;simp only[yI,List.count_cons] at this|-;omega
   ·intro fN dY h;right;rcases gD fN dY h with⟨bL,J,_⟩|J
    ·simp only[cI,gz] at J;rw[J.1];simp
    ·simp[J]
   ·intro w' et ir dL mL kq qx h4 e2 rY jM hs;simp only[ea] at hs;obtain⟨fa,lu,bu,_,_,bE,cl,kn,h9⟩:=jZ w' et ir dL mL kq qx (by
      rintro c (h|h|⟨bL,h⟩)
      ·exact h4 c (.inl h)
      ·exact h4 c (.inr (.inl (by simp[h])))
      ·simp only[cI,gz] at h;exact h4 c (.inr (.inl (by rw[<-h.1];simp)))) e2
     (fun aU _=>rY aU (by simp)) jM hs
    have xm:=h4 b (.inr (.inl (by simp)));refine⟨[.pointer (some ⟨b,o,none⟩)],b::lu,⟨b,o,lu,fa,rfl,rfl,bu.len,bE b o rfl,xm.O2 hC,bu⟩,by simp,fun _ _=>rfl,?_,?_,⟨b,o,fa,rfl,bu.len,bE b o rfl,kn⟩,?_⟩
    ·intro cP bL h;have cM:=(aa cP bL h).1;refine((ah cP bL h).1).eB ((h4 cP (.inr (.inr ⟨bL,h⟩))).eB ?_);intro dY a2;rcases gD cP dY a2 with⟨hQ,J,_⟩|J
     ·simp only[cI,gz] at J;exact cM (by rw[J.1];simp)
     ·exact cM (f6 _ (cU.mem_iff.2 (by simp[J])))
    ·rw[yN] at cl|-;intro c;have:=cl c;simp only[yI,List.count_cons] at this|-;omega
    ·intro q gx ha gq ac ai;cases q with
     |nil=>exact ai
     |cons s' q=>
      cases s'<;>simp only[gL] at ac<;>first|(cases ac;done)|skip
      obtain⟨cP,bL,fO,J,ae,aI,aX⟩:=ai;simp only[hh,Value.pointer.injEq,cI,Addr.mk.injEq,and_true] at J;obtain⟨rfl,rfl⟩:=J;obtain rfl:=aI.eq kw (by omega);exact⟨b,o,fa,rfl,bu.len,bE b o rfl,h9 q gx ha gq ac aX⟩
  case st.unst t=>
   obtain⟨dE,b3,gX,dK,bT,bz,cZ,cU,gD,jZ,nq⟩:=aT (loc:=loc) (τ:=t) hr ah ag aa ao aD;refine⟨dE,b3,gX,dK,bT,bz,cZ,cU,gD,?_,?_⟩
   rotate_left 1
   ·intro q f2 dL l2 cd cC h h6 h5 qD e2 c hc;cases q with
    |nil=>cases h
    |cons s' q=>
     cases s'<;>first|(cases h;done)|skip
     exact nq q f2 dL l2 cd cC h h6 h5 qD e2 c hc
   intro w' et ir dL mL kq qx h4 e2 rY jM hs;obtain⟨fa,lu,bu,gu,lD,bE,cl,kn,h9⟩:=jZ w' et ir dL mL kq qx h4 e2 (fun aU _=>rY aU (by simp)) jM hs;refine⟨fa,lu,bu,by simp,lD,bE,cl,kn,?_⟩;intro q gx ha gq ac ai;cases q with
   |nil=>
    obtain⟨rfl,rfl,rfl⟩:=bk.pW.1 ai;obtain⟨_,_,e⟩:=bk.pW.1 (h9 [] t loc cs (by simpa[gL,rU] using ac) (bk.pW.2 ⟨rfl,rfl,rfl⟩));exact bk.pW.2 ⟨rfl,rfl,e⟩
   |cons s' q=>
    cases s'<;>simp only[gL] at ac<;>first|(cases ac;done)|skip
    exact h9 q gx ha gq ac ai
  case pr.fst ta tb=>
   obtain⟨f1,cC,rfl,J,R⟩:=hr;have da:=J.len;have l2:=R.len;simp only[fl,pe] at da l2;have fR:sM w loc (cs.take ta.size) ta.size:=fun b o h=>⟨(ah b o h).1.take,fun j aK aL=>(ah b o h).2 j aK (by show j<o+(ta.size+tb.size);omega)⟩;simp only[kO] at ag;obtain⟨l7,h6,pF⟩:=ag;obtain⟨dE,b3,gX,dK,bT,bz,cZ,cU,gD,jZ,nq⟩:=aT (loc:=loc) J fR l7 (fun b o h=>⟨fun q=>(aa b o h).1 (by simp[q]),(aa b o h).2⟩) (fun c hc=>ao c (by simp[hc])) aD;refine⟨dE,b3,gX,dK++cC,bT,bz,cZ,?_,?_,?_,?_⟩
   rotate_left 3
   ·intro q f2 dL l2 cd O1 h fA h5 qD e2 c hc;cases q with
    |nil=>cases h
    |cons s' q=>
     cases s'<;>first|(cases h;done)|skip
     ·obtain⟨aK,aL⟩:=nq q f2 dL l2 cd O1 h fA h5 qD e2 c hc;exact⟨by simp[aK],aL⟩
     ·obtain⟨g,bu,bE⟩:=bi.sub (p:=q) R h5 qD;have zX:c∈cC:=bE c (by rw[<-bi.uniq fA e2 bu];exact hc);refine⟨by simp[zX],fun fN dY aE e=>?_⟩;subst e;rcases gD c dY aE with⟨bL,aC,_⟩|aC
      ·exact(aa c bL aC).1 (by simp[zX])
      ·exact pF c (cU.mem_iff.2 (by simp[aC])) c zX rfl
   ·rw[yN] at cU|-;intro c;have:=cU c;simp only[yI] at this|-;omega
   ·intro fN dY h;rcases gD fN dY h with⟨bL,aK,aL,a8⟩|aK
    ·exact .inl ⟨bL,aK,aL,by show dY+τ'.size<=bL+(ta.size+tb.size);omega⟩
    ·exact .inr (by simp[aK])
   ·intro w' et ir dL mL kq qx h4 e2 rY jM hs;simp only[ea] at hs;obtain⟨dy,hs,rfl⟩:=hs;obtain⟨fa,lu,bu,_,lD,bE,cl,kn,h9⟩:=jZ w' et ir dL mL dy qx (by
      rintro c (h|h|h)
      ·exact h4 c (.inl h)
      ·exact h4 c (.inr (.inl (by simp[h])))
      ·exact h4 c (.inr (.inr h))) e2 (fun aU _=>rY aU (by simp)) jM hs
    have qz:∀fN dY,dE=some (fN,dY)->(∃o,loc=some (fN,o)/\o<=dY/\dY+τ'.size<=o+ta.size)\/fN∈f1:=fun fN dY h=>(gD fN dY h).imp id (fun q=>cU.mem_iff.2 (by simp[q]));have n5:∀m c,M m c->et m c/\c3 w w' c:=fun m c hc=>⟨qx m c hc,(h4 c (.inl ⟨m,hc⟩)).eB (fun bL h=>by
     rcases qz c bL h with⟨o,q,_⟩|q
     ·exact(aa c o q).2 m hc
     ·exact ao c (by simp[q]) m hc)⟩
    have Xr:∀c∈cC,c3 w w' c:=fun c hc=>(h4 c (.inr (.inl (by simp[hc])))).eB (fun dY h=>by
     rcases qz c dY h with⟨o,q,_⟩|q
     ·exact(aa c o q).1 (by simp[hc])
     ·exact pF c q c hc rfl)
    have md:=bu.len;refine⟨fa++cs.drop ta.size,lu++cC,⟨lu,cC,rfl,?_,?_⟩,by simp,?_,?_,?_,(by
     show bk w' ta loc ((fa++cs.drop ta.size).take ta.size) p τ' dE ir;rw[yO (by omega),eC (by omega)];exact kn),?_⟩
    ·rw[yO (by omega),eC (by omega)];exact bu
    ·rw[yJ (by omega),yK (by omega),hj];exact R.mono n5 Xr
    ·intro aK aL;rw[lD aK aL,pf]
    ·intro b o h;refine(bE b o h).append ?_;rw[md];intro j v al;have xm:=h4 b (.inr (.inr ⟨o,h⟩));have kX:j<(cs.drop ta.size).length:=(e9.1 al).1;simp only[pe] at kX;rw[xm.1]
     ·exact((ah b o h).1.drop) j v al
     ·intro dY a2;rcases qz b dY a2 with⟨hQ,aK,aL,a8⟩|q
      ·rw[h] at aK;simp only[cI,gz,true_and] at aK;right;omega
      ·exact absurd (by simp[q]) (aa b o h).1
    ·rw[yN] at cl|-;intro c;have:=cl c;simp only[yI] at this|-;omega
    ·intro q gx ha gq ac ai;have aC:(fa++cs.drop ta.size).take ta.size=fa:=(by rw[yO (by omega),eC (by omega)]);have aV:(fa++cs.drop ta.size).drop ta.size=cs.drop ta.size:=(by rw[yJ (by omega),yK (by omega),hj]);cases q with
     |nil=>
      obtain⟨rfl,rfl,rfl⟩:=bk.pW.1 ai;obtain⟨_,_,e⟩:=bk.pW.1 (h9 [] ta loc (cs.take ta.size) (by simpa[gL,rU] using ac) (bk.pW.2 ⟨rfl,rfl,rfl⟩));exact bk.pW.2 ⟨rfl,rfl,by rw[e,pf]⟩
     |cons s' q=>
      cases s'<;>simp only[gL] at ac<;>first|(cases ac;done)|skip
      ·show bk w' ta loc ((fa++cs.drop ta.size).take ta.size) q gx ha gq;rw[aC];exact h9 q gx ha gq ac ai
      ·show bk w' tb (loc.map fun q=>(q.1,q.2+ta.size)) ((fa++cs.drop ta.size).drop ta.size) q gx ha gq;rw[aV];exact bk.eB R Xr ai
  case pr.snd ta tb=>
   obtain⟨f1,cC,rfl,J,R⟩:=hr;have da:=J.len;have l2:=R.len;simp only[fl,pe] at da l2;have fR:sM w (loc.map fun q=>(q.1,q.2+ta.size)) (cs.drop ta.size) tb.size:=by
    intro b o h;cases loc with
    |none=>simp at h
    |some q=>
     obtain⟨sX,k4⟩:=q;simp only[g6,cI,gz] at h;obtain⟨rfl,rfl⟩:=h;exact⟨(ah _ _ rfl).1.drop,fun j aK aL=>(ah _ _ rfl).2 j (by omega) (by show j<k4+(ta.size+tb.size);omega)⟩
   simp only[kO] at ag;obtain⟨l7,h6,pF⟩:=ag;have j0:∀b o,(loc.map fun q=>(q.1,q.2+ta.size))=some (b,o)->∃k4,loc=some (b,k4)/\o=k4+ta.size:=by
    intro b o h;cases loc with
    |none=>simp at h
    |some q=>
     obtain⟨sX,k4⟩:=q;simp only[g6,cI,gz] at h;exact⟨k4,by rw[h.1],h.2.symm⟩
   obtain⟨dE,b3,gX,dK,bT,bz,cZ,cU,gD,jZ,nq⟩:=aT (loc:=loc.map fun q=>(q.1,q.2+ta.size)) R fR h6 (fun b o h=>by obtain⟨k4,h,_⟩:=j0 b o h;exact⟨fun q=>(aa b k4 h).1 (by simp[q]),(aa b k4 h).2⟩) (fun c hc=>ao c (by simp[hc])) aD;refine⟨dE,b3,gX,dK++f1,bT,bz,cZ,?_,?_,?_,?_⟩
   rotate_left 3
   ·intro q f2 dL l2 cd O1 h fA h5 qD e2 c hc;cases q with
    |nil=>cases h
    |cons s' q=>
     cases s'<;>first|(cases h;done)|skip
     ·obtain⟨g,bu,bE⟩:=bi.sub (p:=q) J h5 qD;have zX:c∈f1:=bE c (by rw[<-bi.uniq fA e2 bu];exact hc);refine⟨by simp[zX],fun fN dY aE e=>?_⟩;subst e;rcases gD c dY aE with⟨bL,aC,_⟩|aC
      ·obtain⟨k4,aV,_⟩:=j0 _ _ aC;exact(aa c k4 aV).1 (by simp[zX])
      ·exact pF c zX c (cU.mem_iff.2 (by simp[aC])) rfl
     ·obtain⟨aK,aL⟩:=nq q f2 dL l2 cd O1 h fA h5 qD e2 c hc;exact⟨by simp[aK],aL⟩
   ·rw[yN] at cU|-;intro c;have:=cU c;simp only[yI] at this|-;omega
   ·intro fN dY h;rcases gD fN dY h with⟨bL,aK,aL,a8⟩|aK
    ·obtain⟨k4,bH,rfl⟩:=j0 _ _ aK;exact .inl ⟨k4,bH,by omega,by show dY+τ'.size<=k4+(ta.size+tb.size);omega⟩
    ·exact .inr (by simp[aK])
   ·intro w' et ir dL mL kq qx h4 e2 rY jM hs;simp only[ea] at hs;obtain⟨dy,hs,rfl⟩:=hs;obtain⟨fa,lu,bu,_,lD,bE,cl,kn,h9⟩:=jZ w' et ir dL mL dy qx (by
      rintro c (h|h|⟨o,h⟩)
      ·exact h4 c (.inl h)
      ·exact h4 c (.inr (.inl (by simp[h])))
      ·obtain⟨k4,bH,rfl⟩:=j0 _ _ h;exact h4 c (.inr (.inr ⟨k4,bH⟩))) e2 (fun aU _=>rY aU (by simp)) jM hs
    have qz:∀fN dY,dE=some (fN,dY)->(∃o,loc=some (fN,o)/\o+ta.size<=dY/\dY+τ'.size<=o+ta.size+tb.size)\/fN∈cC:=fun fN dY h=>by
     rcases gD fN dY h with⟨bL,aK,aL,a8⟩|q
     ·obtain⟨k4,bH,rfl⟩:=j0 _ _ aK;exact .inl ⟨k4,bH,aL,a8⟩
     ·exact .inr (cU.mem_iff.2 (by simp[q]))
    have n5:∀m c,M m c->et m c/\c3 w w' c:=fun m c hc=>⟨qx m c hc,(h4 c (.inl ⟨m,hc⟩)).eB (fun bL h=>by
     rcases qz c bL h with⟨o,q,_⟩|q
     ·exact(aa c o q).2 m hc
     ·exact ao c (by simp[q]) m hc)⟩
    have Xq:∀c∈f1,c3 w w' c:=fun c hc=>(h4 c (.inr (.inl (by simp[hc])))).eB (fun dY h=>by
     rcases qz c dY h with⟨o,q,_⟩|q
     ·exact(aa c o q).1 (by simp[hc])
     ·exact pF c hc c q rfl)
    have md:=bu.len;refine⟨cs.take ta.size++fa,f1++lu,⟨f1,lu,rfl,?_,?_⟩,by simp,?_,?_,?_,(by
     show bk w' tb (loc.map fun q=>(q.1,q.2+ta.size)) ((cs.take ta.size++fa).drop ta.size) p τ' dE ir;rw[yJ (by simp;omega),yK (by simp;omega),hj];exact kn),?_⟩
    ·rw[yO (by simp;omega),List.take_take,Nat.min_self];exact J.mono n5 Xq
    ·rw[yJ (by simp;omega),yK (by simp;omega),hj];exact bu
    ·intro aK aL;rw[lD (by rw[aK];rfl) aL,pf]
    ·intro b o h;have xm:=h4 b (.inr (.inr ⟨o,h⟩));have aG:es w' b o (cs.take ta.size):=by
      intro j v al;have kX:j<(cs.take ta.size).length:=(e9.1 al).1;simp only[fl] at kX;rw[xm.1]
      ·exact((ah b o h).1.take) j v al
      ·intro dY a2;rcases qz b dY a2 with⟨hQ,aK,aL,a8⟩|q
       ·rw[h] at aK;simp only[cI,gz,true_and] at aK;left;omega
       ·exact absurd (by simp[q]) (aa b o h).1
     refine aG.append ?_;have:=bE b (o+ta.size) (by rw[h];rfl);rwa[fl,iY (by omega)]
    ·rw[yN] at cl|-;intro c;have:=cl c;simp only[yI] at this|-;omega
    ·intro q gx ha gq ac ai;have aC:(cs.take ta.size++fa).take ta.size=cs.take ta.size:=(by rw[yO (by simp;omega),List.take_take,Nat.min_self]);have aV:(cs.take ta.size++fa).drop ta.size=fa:=(by rw[yJ (by simp;omega),yK (by simp;omega),hj]);cases q with
     |nil=>
      obtain⟨rfl,rfl,rfl⟩:=bk.pW.1 ai;obtain⟨_,_,e⟩:=bk.pW.1 (h9 [] tb (loc.map fun q=>(q.1,q.2+ta.size)) (cs.drop ta.size) (by simpa[gL,rU] using ac) (bk.pW.2 ⟨rfl,rfl,rfl⟩));exact bk.pW.2 ⟨rfl,rfl,by rw[e,pf]⟩
     |cons s' q=>
      cases s'<;>simp only[gL] at ac<;>first|(cases ac;done)|skip
      ·show bk w' ta loc ((cs.take ta.size++fa).take ta.size) q gx ha gq;rw[aC];exact bk.eB J Xq ai
      ·show bk w' tb (loc.map fun q=>(q.1,q.2+ta.size)) ((cs.take ta.size++fa).drop ta.size) q gx ha gq;rw[aV];exact h9 q gx ha gq ac ai
theorem KG {M:du->Nat->Prop} {w:World} (p:List bw) {τ:aq} {loc:Loc} {cs:List Value} {x:τ.den} {fp:List Nat} {τ':aq} {y:τ'.den} (J:bi M w τ cs x fp) (R:sM w loc cs τ.size) (ae:fp.Nodup) (aI:∀b o,loc=some (b,o)->b∉fp/\∀m,¬M m b) (aX:∀b∈fp,∀m,¬M m b) (bI:dr τ x p τ' y):∃dE b3 gX dK,bk w τ loc cs p τ' dE b3/\bi M w τ' b3 y gX/\sM w dE b3 τ'.size/\fp.Perm (gX++dK)/\(∀fN dY,dE=some (fN,dY)->(∃o,loc=some (fN,o)/\o<=dY/\dY+τ'.size<=o+τ.size)\/fN∈dK)/\(∀(
   w':World) (et:du->Nat->Prop) (ir:List Value) (dL:τ'.den) (mL:List Nat) (kq:τ.den),
   (∀m b,M m b->et m b)->(∀b,(∃m,M m b)\/b∈dK\/(∃o,loc=some (b,o))->ww w w' dE τ'.size b)->
   bi et w' τ' ir dL mL->(dE=none->p≠[]->ir=b3)->(∀b o,dE=some (b,o)->es w' b o ir)->ea τ x p τ' dL kq->
   ∃fa lu,bi et w' τ fa kq lu/\(p=[]->fa=ir)/\(loc=none->(dE≠none\/ir=b3)->fa=cs)/\(∀b o,loc=some (b,o)->es w' b o fa)/\lu.Perm (mL++dK)/\bk w' τ loc fa p τ' dE ir/\∀(q:List bw) (gx:aq) (ha:Loc) (gq:List Value),gL p q=true->bk w τ loc cs q gx ha gq->bk w' τ loc fa q gx ha gq):=by
 obtain⟨dE,b3,gX,dK,bT,bz,cZ,cU,gD,jZ,_⟩:=FA p J R ae aI aX bI;exact⟨dE,b3,gX,dK,bT,bz,cZ,cU,gD,jZ⟩
def bK (I B:Nat->Prop):du->Nat->Prop
 |.cD=>I
 |.ey=>fun b=>I b\/B b
theorem pQ {I B:Nat->Prop} {m:du} {b:Nat} (h:bK I B m b):I b\/B b:=by cases m;exact .inl h;exact h
inductive aw where
 |dead
 |val (τ:aq) (x:τ.den)
 |ref (id:Nat) (p:List bw)
 |addr (id:Nat) (p:List bw)
 |view (id:Nat) (p:List bw) (lo hi:Nat)
 |app (id:Nat) (p:List bw) (τ:aq) (aS:List τ.den) (own:List Nat)
 |c5 (v:Value)
 |d3 (l:List aw)
 |agg (l:List aw)
 |dQ (f:Nat) (l:List aw)
 |lq (id:Nat) (p:List bw) (k:Int)
abbrev a1:=(τ:aq)×τ.den
structure ba where
 g:List (Nat×aw)
 h:List (Nat×a1)
def az {α:Type}:List (Nat×α)->Nat->Option α
 |[],_=>none
 |(k,v)::r,n=>bif Nat.beq k n then some v else az r n
theorem db {α:Type} (k:Nat) (v:α) (r:List (Nat×α)) (n:Nat):az ((k,v)::r) n=if k=n then some v else az r n:=by
 show(bif Nat.beq k n then some v else az r n)=_;by_cases h:k=n
 ·rw[if_pos h,h];simp
 ·rw[if_neg h];have:Nat.beq k n=false:=by
   cases aa:Nat.beq k n
   ·rfl
   ·exact absurd (eZ aa) h
  rw[this];rfl
def gt (g:List (Nat×aw)) (n:Nat):aw:=match az g n with|some v=>v|none=>.dead
structure dZ where
 I0:Nat->Prop
 B:Nat->Prop
 F0:Nat->Prop
 w0:World
 n:Nat
 pin:List Nat
 vs:Nat->Value
def dZ.ok (C:dZ) (d:Nat):Prop:=d<C.n/\d∉C.pin
inductive cw (M:du->Nat->Prop) (w:World) (h:List (Nat×a1)) (rt:Nat->List Value) (fp:Nat->List Nat):aw->Value->Prop
 |dead (v:Value):cw M w h rt fp .dead v
 |c5 (v:Value):cw M w h rt fp (.c5 v) v
 |val {τ:aq} {x:τ.den} {cs:List Value} (r:bi M w τ cs x []):cw M w h rt fp (.val τ x) (cH τ cs)
 |ref {id:Nat} {p:List bw} {t:a1} {τ':aq} {loc:Loc} {cs:List Value} (af:az h id=some t) (ag:bk w t.1 none (rt id) p τ' loc cs):cw M w h rt fp (.ref id p) (cH τ' cs)
 |addr {id:Nat} {p:List bw} {t:a1} {τ':aq} {b o:Nat} {cs:List Value} (af:az h id=some t) (ag:bk w t.1 none (rt id) p τ' (some (b,o)) cs):cw M w h rt fp (.addr id p) (.pointer (some ⟨b,o,none⟩))
 |view {id:Nat} {p:List bw} {lo hi:Nat} {t:a1} {τ':aq} {loc:Loc} {b o len cap:Nat} (af:az h id=some t) (ag:bk w t.1 none (rt id) p (.osl τ') loc [.slice (some ⟨b,o,none⟩) len cap]) (J:lo<=hi) (R:hi<=len) (ae:len<=cap):cw M w h rt fp (.view id p lo hi) (.slice (some ⟨b,if cap=lo then o else o+lo*τ'.size,none⟩) (hi-lo) (cap-lo))
 |nJ (id:Nat) (p:List bw):cw M w h rt fp (.view id p 0 0) (.slice none 0 0)
 |app {id:Nat} {p:List bw} {τ:aq} {aS:List τ.den} {own:List Nat} {t:a1} {loc:Loc} {jU:List Value} {xs:List τ.den} {f1 cC:List Nat} {v:Value} (af:az h id=some t) (fA:τ.gd=true) (ag:bk w t.1 none (rt id) p (.osl τ) loc jU) (aD:dr t.1 t.2 p (.osl τ) xs) (J:bi M w (.osl τ) jU xs f1) (j1:∀b∈f1,b∈fp id) (R:bi M w (.osl τ) [v] (xs++aS) cC) (mU:∀i∈own,i≠id/\∃u,az h i=some u) (fh:∀b∈cC,b∈f1\/∃i∈own,b∈fp i) (eh:cC.Nodup):cw M w h rt fp (.app id p τ aS own) v
 |d3 {l:List aw} {vs:Array Value} (ah:l.length=vs.size) (ax:∀(i:Nat) (a:aw) (v:Value),l[i]?=some a->vs[i]?=some v->cw M w h rt fp a v):cw M w h rt fp (.d3 l) (.tuple vs)
 |agg {l:List aw} {vs:List Value} (ah:l.length=vs.length) (ax:∀(i:Nat) (a:aw) (v:Value),l[i]?=some a->vs[i]?=some v->cw M w h rt fp a v):cw M w h rt fp (.agg l) (.agg (vs.map fun v=>v.cells.toList).flatten.toArray)
 |lq {id:Nat} {p:List bw} {k:Int} {t:a1} {τ':aq} {loc:Loc} {b c i:Nat} {bG:Array MapEntry} {e:MapEntry} (af:az h id=some t) (ag:bk w t.1 none (rt id) p (.mp τ') loc [.map (some b)]) (aa:b∈fp id) (ao:jy w b=some (bG,c)) (hi:bG[i]?=some e) (ac:e.key=.int .i64 k):cw M w h rt fp (.lq id p k) (.int .i64 (e.born:Int))
 |dQ {f:Nat} {l:List aw} {vs:Array Value} (ah:l.length=vs.size) (ax:∀(i:Nat) (a:aw) (v:Value),l[i]?=some a->vs[i]?=some v->cw M w h rt fp a v):cw M w h rt fp (.dQ f l) (.func (.func f) #[] vs)
structure cc (C:dZ) (st:ba) (bY:Array Value) (w:World) (I:Nat->Prop) (rt:Nat->List Value) (fp:Nat->List Nat):Prop where
 n:bY.size=C.n
 i0:∀b,C.I0 b->I b
 i1:∀b,I b->C.I0 b\/C.w0.heap.size<=b\/C.F0 b
 ib:∀b,I b\/C.B b->b<w.heap.size
 tree:∀id t,az st.h id=some t->bi (bK I C.B) w t.1 (rt id) t.2 (fp id)/\(fp id).Nodup/\∀b∈fp id,¬I b/\¬C.B b/\b<w.heap.size/\(C.w0.heap.size<=b\/C.F0 b)
 dis:∀i j t u,az st.h i=some t->az st.h j=some u->i≠j->∀b∈fp i,b∉fp j
 tmp:∀k,cw (bK I C.B) w st.h rt fp (gt st.g k) (bY.getD k undef)
 frame:∀b,b<C.w0.heap.size->¬C.F0 b->w.heap[b]?=C.w0.heap[b]?
 evo:∀b,b<C.w0.heap.size->lO C.w0 w b
 size:C.w0.heap.size<=w.heap.size
 os:w.os=C.w0.os
 tape:w.tape=C.w0.tape
 output:w.output=C.w0.output
 pin:∀k∈C.pin,bY.getD k undef=C.vs k
def f7 (C:dZ) (st:ba) (bY:Array Value) (w:World):Prop:=∃I rt fp,cc C st bY w I rt fp
structure hV (w w':World):Prop where
 os:w'.os=w.os
 tape:w'.tape=w.tape
 output:w'.output=w.output
 size:w.heap.size<=w'.heap.size
 heap:∀b,b<w.heap.size->w'.heap[b]?=w.heap[b]?
theorem hV.refl (w:World):hV w w:=⟨rfl,rfl,rfl,bS _,fun _ _=>rfl⟩
theorem hV.trans {a b c:World} (h:hV a b) (k:hV b c):hV a c:=
 ⟨k.os.trans h.os,k.tape.trans h.tape,k.output.trans h.output,eu h.size k.size,fun i hi=>(k.heap i (jn hi h.size)).trans (h.heap i hi)⟩
theorem hV.drew {a w:World} (h:hV a w):hV a w.drew:=⟨h.os,h.tape,h.output,h.size,h.heap⟩
theorem hV.alloc (w:World) (o:Obj):hV w (w.alloc o):=⟨rfl,rfl,rfl,by simp,fun b aa=>by
 show(w.heap.push o)[b]?=_;rw[DW,if_neg (by omega)]⟩
theorem cw.mono {M et:du->Nat->Prop} {w w':World} {h a2:List (Nat×a1)} {rt ou:Nat->List Value} {fp gX:Nat->List Nat} (bC:∀m b,M m b->et m b/\c3 w w' b) (ax:∀id t,az h id=some t->bi M w t.1 (rt id) t.2 (fp id)/\∀b∈fp id,c3 w w' b) {a:aw} {v:Value} (aG:cw M w h rt fp a v) (ac:∀id t,az h id=some t->az a2 id=some t/\ou id=rt id/\gX id=fp id):cw et w' a2 ou gX a v:=by
 induction aG with
 |dead v=>exact .dead v
 |c5 v=>exact .c5 v
 |val r=>exact .val (r.mono bC (by simp))
 |ref af ag=>
  obtain⟨bu,bE,_⟩:=ac _ _ af;exact .ref bu (by rw[bE];exact ag.eB (ax _ _ af).1 (ax _ _ af).2)
 |addr af ag=>
  obtain⟨bu,bE,_⟩:=ac _ _ af;exact .addr bu (by rw[bE];exact ag.eB (ax _ _ af).1 (ax _ _ af).2)
 |nJ id p=>exact .nJ id p
 |view af ag J R ae=>
  obtain⟨bu,bE,_⟩:=ac _ _ af;exact .view bu (by rw[bE];exact ag.eB (ax _ _ af).1 (ax _ _ af).2) J R ae
 |@app id p τ aS own t loc jU xs f1 cC v af fA ag aD J j1 R mU fh eh=>
  obtain⟨bu,bE,cl⟩:=ac _ _ af;obtain⟨hr,hs⟩:=ax _ _ af;have lw:∀b∈cC,c3 w w' b:=fun b aa=>by
   rcases fh b aa with aa|⟨i,hi,aa⟩
   ·exact hs b (j1 b aa)
   ·obtain⟨_,u,aQ⟩:=mU i hi;exact(ax i u aQ).2 b aa
  refine .app bu fA (by rw[bE];exact ag.eB hr hs) aD (J.mono bC (fun b aa=>hs b (j1 b aa))) (by rw[cl];exact j1) (R.mono bC lw) ?_ ?_ eh
  ·intro i hi;obtain⟨q,u,aQ⟩:=mU i hi;exact⟨q,u,(ac i u aQ).1⟩
  ·intro b aa;rcases fh b aa with aa|⟨i,hi,aa⟩
   ·exact .inl aa
   ·obtain⟨_,u,aQ⟩:=mU i hi;exact .inr ⟨i,hi,by rw[(ac i u aQ).2.2];exact aa⟩
 |lq af ag aa ao hi CB=>
  obtain⟨bu,bE,cl⟩:=ac _ _ af;exact .lq bu (by rw[bE];exact ag.eB (ax _ _ af).1 (ax _ _ af).2) (by rw[cl];exact aa) (by rw[((ax _ _ af).2 _ aa).2];exact ao) hi CB
 |d3 ah _ aT=>exact .d3 ah (fun i a v J R=>aT i a v J R)
 |agg ah _ aT=>exact .agg ah (fun i a v J R=>aT i a v J R)
 |dQ ah _ aT=>exact .dQ ah (fun i a v J R=>aT i a v J R)
def bj (g:List (Nat×aw)):Operand->aw
 |.tmp t=>gt g t
 |.const (.int k n)=>.val (.int k) n
 |.const (.bool b)=>.val .bool b
 |.const (.string s)=>.val .str s
 |.const v=>.c5 v
 |.func f=>.dQ f []
 |.global _=>.dead
theorem cw.int {M:du->Nat->Prop} {w:World} {h:List (Nat×a1)} {rt:Nat->List Value} {fp:Nat->List Nat} (k:IntKind) (n:Int):cw M w h rt fp (.val (.int k) n) (.int k n):=
 .val (τ:=.int k) (cs:=[.int k n]) ⟨rfl,rfl⟩
theorem cw.bool {M:du->Nat->Prop} {w:World} {h:List (Nat×a1)} {rt:Nat->List Value} {fp:Nat->List Nat} (b:Bool):cw M w h rt fp (.val .bool b) (.bool b):=
 .val (τ:=.bool) (cs:=[.bool b]) ⟨rfl,rfl⟩
theorem cw.str {M:du->Nat->Prop} {w:World} {h:List (Nat×a1)} {rt:Nat->List Value} {fp:Nat->List Nat} (s:ByteArray):cw M w h rt fp (.val .str s) (.string s):=
 .val (τ:=.str) (cs:=[.string s]) ⟨rfl,rfl⟩
theorem cc.bj {C:dZ} {st:ba} {a:Act} {w:World} {I:Nat->Prop} {rt:Nat->List Value} {fp:Nat->List Nat} (h:cc C st a.tmps w I rt fp) (x:Operand):cw (bK I C.B) w st.h rt fp (bj st.g x) (a.eval x):=by
 cases x with
 |tmp t=>exact h.tmp t
 |const v=>
  cases v<;>simp only[lP.bj,Act.eval]
  case int k n=>exact .int k n
  case bool b=>exact .bool b
  case string s=>exact .str s
  all_goals exact .c5 _
 |func f=>exact .dQ (vs:=#[]) (by simp) (by simp)
 |global g=>exact .dead _
theorem k1 {α:Type}:∀(l r:List (Nat×α)) (n:Nat),az (l++r) n=(az l n).or (az r n)
 |[],r,n=>by simp[az]
 |(k,v)::l,r,n=>by rw[mz,db,db,k1 l r n];split<;>simp
theorem jv (d:Nat) (av:aw) (g:List (Nat×aw)) (k:Nat):gt ((d,av)::g) k=if d=k then av else gt g k:=by unfold gt;rw[db];by_cases h:d=k<;>simp[h]
theorem cc.put {C:dZ} {st:ba} {bY:Array Value} {w:World} {I:Nat->Prop} {rt:Nat->List Value} {fp:Nat->List Nat} (h:cc C st bY w I rt fp) {d:Nat} (aN:C.ok d) {av:aw} {v:Value} (hv:cw (bK I C.B) w st.h rt fp av v):cc C ⟨(d,av)::st.g,st.h⟩ (bY.setIfInBounds d v) w I rt fp where
 n:=by simpa using h.n
 i0:=h.i0
 i1:=h.i1
 ib:=h.ib
 tree:=h.tree
 dis:=h.dis
 tmp:=fun k=>by
  show cw _ _ _ _ _ (gt ((d,av)::st.g) k) _;unfold gt;rw[db];have hs:d<bY.size:=(by rw[h.n];exact aN.1);by_cases ac:d=k
  ·subst ac;rw[if_pos rfl];have:(bY.setIfInBounds d v).getD d undef=v:=(by simp[Array.getD,hs]);rw[this];exact hv
  ·rw[if_neg ac];have:(bY.setIfInBounds d v).getD k undef=bY.getD k undef:=by
    simp only[Ib,Nj ac]
   rw[this];exact h.tmp k
 frame:=h.frame
 evo:=h.evo
 size:=h.size
 os:=h.os
 tape:=h.tape
 output:=h.output
 pin:=fun k ac=>by have:d≠k:=fun e=>aN.2 (e▸ac);rw[<-h.pin k ac];simp only[Ib,Nj this]
structure BF (C:dZ) (st:ba) (w w':World) (I':Nat->Prop) (new:List (Nat×a1)) (rtn:Nat->List Value) (fpn:Nat->List Nat):Prop where
 tree:∀id t,az new id=some t->az st.h id=none/\bi (bK I' C.B) w' t.1 (rtn id) t.2 (fpn id)/\(fpn id).Nodup/\∀b∈fpn id,w.heap.size<=b/\b<w'.heap.size/\¬I' b
 dis:∀i j t u,az new i=some t->az new j=some u->i≠j->∀b∈fpn i,b∉fpn j
theorem BF.nil {C:dZ} {st:ba} {w w':World} {I':Nat->Prop} {rtn:Nat->List Value} {fpn:Nat->List Nat}:BF C st w w' I' [] rtn fpn:=
 ⟨(fun _ _ h=>by cases h),(fun _ _ _ _ h=>by cases h)⟩
theorem BF.one {C:dZ} {st:ba} {w w':World} {I':Nat->Prop} {id:Nat} {t:a1} {cs:List Value} {f:List Nat} (ag:az st.h id=none) (hr:bi (bK I' C.B) w' t.1 cs t.2 f) (aF:f.Nodup) (aa:∀b∈f,w.heap.size<=b/\b<w'.heap.size/\¬I' b):BF C st w w' I' [(id,t)] (fun _=>cs) (fun _=>f) where
 tree:=fun i u h=>by
  rw[db] at h;split at h
  ·rename_i e;subst e;obtain rfl:=ff h;exact⟨ag,hr,aF,aa⟩
  ·cases h
 dis:=fun i j t' u J R dz=>by
  rw[db] at J R;split at J
  ·split at R
   ·rename_i aC aV;exact absurd (aC.symm.trans aV) dz
   ·cases R
  ·cases J
def d9 (new:List (Nat×a1)) {α:Type} (a b:Nat->α):Nat->α:=fun id=>match az new id with|some _=>a id|none=>b id
theorem cc.ext {C:dZ} {st:ba} {bY:Array Value} {w w':World} {I I':Nat->Prop} {rt rtn:Nat->List Value} {fp fpn:Nat->List Nat} (h:cc C st bY w I rt fp) (aD:hV w w') (cK:∀b,I b->I' b) (zU:∀b,I' b->I b\/(w.heap.size<=b/\b<w'.heap.size)) {new:List (Nat×a1)} (ag:BF C st w w' I' new rtn fpn):cc C ⟨st.g,new++st.h⟩ bY w' I' (d9 new rtn rt) (d9 new fpn fp):=by
 have bC:∀m b,bK I C.B m b->bK I' C.B m b/\c3 w w' b:=fun m b aa=>by
  refine⟨?_,.of_heap (aD.heap b (h.ib b (pQ aa)))⟩;cases m
  ·exact cK b aa
  ·exact aa.imp (cK b) id
 have oX:∀id t,az st.h id=some t->az (new++st.h) id=some t/\d9 new rtn rt id=rt id/\d9 new fpn fp id=fp id:=fun id t af=>by
  have:az new id=none:=by
   cases ax:az new id with
   |none=>rfl
   |some u=>have:=(ag.tree id u ax).1;rw[af] at this;cases this
  refine⟨by rw[k1,this,af];rfl,by simp[d9,this],by simp[d9,this]⟩
 have qB:∀id t,az (new++st.h) id=some t->(az new id=some t/\d9 new rtn rt id=rtn id/\d9 new fpn fp id=fpn id)\/(az st.h id=some t/\d9 new rtn rt id=rt id/\d9 new fpn fp id=fp id):=fun id t af=>by
  rw[k1] at af;cases ax:az new id with
  |none=>rw[ax] at af;exact .inr ⟨by simpa using af,by simp[d9,ax],by simp[d9,ax]⟩
  |some u=>rw[ax] at af;exact .inl ⟨by simpa using af,by simp[d9,ax],by simp[d9,ax]⟩
 have Cw:∀id t,az st.h id=some t->∀b∈fp id,c3 w w' b:=fun id t af b aa=>.of_heap (aD.heap b ((h.tree id t af).2.2 b aa).2.2.1);refine{n:=h.n,i0:=fun b aa=>cK b (h.i0 b aa),i1:=?_,ib:=?_,tree:=?_,dis:=?_,tmp:=?_,frame:=?_,evo:=fun b aa=>(h.evo b aa).trans (.of_heap (aD.heap b (jn aa h.size))),size:=eu h.size aD.size,os:=aD.os.trans h.os,tape:=aD.tape.trans h.tape,output:=aD.output.trans h.output,pin:=h.pin}
 ·intro b aa;rcases zU b aa with aa|⟨aa,_⟩
  ·exact h.i1 b aa
  ·exact .inr (.inl (eu h.size aa))
 ·intro b aa;rcases aa with aa|aa
  ·rcases zU b aa with aa|⟨_,aa⟩
   ·exact jn (h.ib b (.inl aa)) aD.size
   ·exact aa
  ·exact jn (h.ib b (.inr aa)) aD.size
 ·intro id t af;rcases qB id t af with⟨J,R,ae⟩|⟨J,R,ae⟩
  ·obtain⟨_,aK,aL,a8⟩:=ag.tree id t J;rw[R,ae];refine⟨aK,aL,fun b aa=>?_⟩;obtain⟨bX,bn,a9⟩:=a8 b aa;exact⟨a9,fun eP=>by have:=h.ib b (.inr eP);omega,bn,.inl (eu h.size bX)⟩
  ·obtain⟨aK,aL,a8⟩:=h.tree id t J;rw[R,ae];refine⟨aK.mono bC (Cw id t J),aL,fun b aa=>?_⟩;obtain⟨bX,bn,a9,bD⟩:=a8 b aa;exact⟨fun cM=>(zU b cM).elim bX (fun q=>by omega),bn,jn a9 aD.size,bD⟩
 ·intro i j t u hi al dz b aa;rcases qB i t hi with⟨J,_,ae⟩|⟨J,_,ae⟩<;>rcases qB j u al with⟨bu,_,cl⟩|⟨bu,_,cl⟩<;>rw[ae] at aa<;>rw[cl]
  ·exact ag.dis i j t u J bu dz b aa
  ·intro cM;have:=((ag.tree i t J).2.2.2 b aa).1;have:=((h.tree j u bu).2.2 b cM).2.2.1;omega
  ·intro cM;have:=((ag.tree j u bu).2.2.2 b cM).1;have:=((h.tree i t J).2.2 b aa).2.2.1;omega
  ·exact h.dis i j t u J bu dz b aa
 ·intro k;exact(h.tmp k).mono bC (fun id t af=>⟨(h.tree id t af).1,Cw id t af⟩) oX
 ·intro b aa c9;rw[aD.heap b (jn aa h.size)];exact h.frame b aa c9
theorem cc.aka {C:dZ} {st:ba} {bY:Array Value} {w w':World} {I:Nat->Prop} {rt:Nat->List Value} {fp:Nat->List Nat} (h:cc C st bY w I rt fp) (aD:hV w w'):cc C st bY w' I rt fp:=by have:=h.ext (rtn:=rt) (fpn:=fp) aD (fun _ h=>h) (fun _ h=>.inl h) (new:=[]) .nil;exact this
def rA:List (Nat×aw)->ba->Prop
 |[],_=>True
 |(k,av)::r,st=>gt st.g k=av/\rA r st
def rB:List (Nat×a1)->ba->Prop
 |[],_=>True
 |(k,t)::r,st=>az st.h k=some t/\rB r st
theorem rA.get {r:List (Nat×aw)} {st:ba} (h:rA r st):∀k,gt r k=.dead\/gt r k=gt st.g k:=by
 induction r with
 |nil=>exact fun k=>.inl rfl
 |cons q r aT=>
  obtain⟨k0,av⟩:=q;intro k;rw[jv];split
  ·rename_i e;subst e;exact .inr h.1.symm
  ·exact aT h.2 k
theorem rB.get {r:List (Nat×a1)} {st:ba} (h:rB r st):∀k t,az r k=some t->az st.h k=some t:=by
 induction r with
 |nil=>intro k t h;cases h
 |cons q r aT=>
  obtain⟨k0,av⟩:=q;intro k t af;rw[db] at af;split at af
  ·rename_i e;subst e;rw[<-af];exact h.1
  ·exact aT h.2 k t af
mutual
def aw.ids:aw->List Nat
 |.dead|.val _ _|.c5 _=>[]
 |.ref id _|.addr id _|.view id _ _ _|.lq id _ _=>[id]
 |.app id _ _ _ own=>id::own
 |.d3 l|.agg l|.dQ _ l=>aw.qI l
def aw.qI:List aw->List Nat
 |[]=>[]
 |a::r=>a.ids++aw.qI r
end
theorem aw.GY {l:List aw} {i:Nat} {a:aw} (h:l[i]?=some a) {id:Nat} (bh:id∈a.ids):id∈aw.qI l:=by
 induction l generalizing i with
 |nil=>simp at h
 |cons x r aT=>
  simp only[aw.qI,fe];cases i with
  |zero=>simp at h;subst h;exact .inl bh
  |succ i=>simp at h;exact .inr (aT h)
theorem cw.xU {M et:du->Nat->Prop} {w w':World} {h a2:List (Nat×a1)} {rt ou:Nat->List Value} {fp gX:Nat->List Nat} (bC:∀m b,M m b->et m b/\c3 w w' b) {a:aw} {v:Value} (aG:cw M w h rt fp a v) (ac:∀id∈a.ids,∀t,az h id=some t->az a2 id=some t/\ou id=rt id/\gX id=fp id/\bi M w t.1 (rt id) t.2 (fp id)/\∀b∈fp id,c3 w w' b):cw et w' a2 ou gX a v:=by
 induction aG with
 |dead v=>exact .dead v
 |c5 v=>exact .c5 v
 |val r=>exact .val (r.mono bC (by simp))
 |ref af ag=>
  obtain⟨bu,bE,_,gu,lD⟩:=ac _ (by simp[aw.ids]) _ af;exact .ref bu (by rw[bE];exact ag.eB gu lD)
 |addr af ag=>
  obtain⟨bu,bE,_,gu,lD⟩:=ac _ (by simp[aw.ids]) _ af;exact .addr bu (by rw[bE];exact ag.eB gu lD)
 |nJ id p=>exact .nJ id p
 |view af ag J R ae=>
  obtain⟨bu,bE,_,gu,lD⟩:=ac _ (by simp[aw.ids]) _ af;exact .view bu (by rw[bE];exact ag.eB gu lD) J R ae
 |@app id p τ aS own t loc jU xs f1 cC v af fA ag aD J j1 R mU fh eh=>
  obtain⟨bu,bE,cl,hr,hs⟩:=ac _ (by simp[aw.ids]) _ af;have lw:∀b∈cC,c3 w w' b:=fun b aa=>by
   rcases fh b aa with aa|⟨i,hi,aa⟩
   ·exact hs b (j1 b aa)
   ·obtain⟨_,u,aQ⟩:=mU i hi;exact(ac i (by simp[aw.ids,hi]) u aQ).2.2.2.2 b aa
  refine .app bu fA (by rw[bE];exact ag.eB hr hs) aD (J.mono bC (fun b aa=>hs b (j1 b aa))) (by rw[cl];exact j1) (R.mono bC lw) ?_ ?_ eh
  ·intro i hi;obtain⟨q,u,aQ⟩:=mU i hi;exact⟨q,u,(ac i (by simp[aw.ids,hi]) u aQ).1⟩
  ·intro b aa;rcases fh b aa with aa|⟨i,hi,aa⟩
   ·exact .inl aa
   ·obtain⟨_,u,aQ⟩:=mU i hi;exact .inr ⟨i,hi,by rw[(ac i (by simp[aw.ids,hi]) u aQ).2.2.1];exact aa⟩
 |lq af ag aa ao hi CB=>
  obtain⟨bu,bE,cl,gu,lD⟩:=ac _ (by simp[aw.ids]) _ af;exact .lq bu (by rw[bE];exact ag.eB gu lD) (by rw[cl];exact aa) (by rw[(lD _ aa).2];exact ao) hi CB
 |d3 ah _ aT=>exact .d3 ah (fun i a v J R=>aT i a v J R (fun id bh=>ac id (aw.GY J bh)))
 |agg ah _ aT=>exact .agg ah (fun i a v J R=>aT i a v J R (fun id bh=>ac id (aw.GY J bh)))
 |dQ ah _ aT=>exact .dQ ah (fun i a v J R=>aT i a v J R (fun id bh=>ac id (aw.GY J bh)))
theorem cc.EA {C:dZ} {st cj:ba} {bY:Array Value} {w:World} {I:Nat->Prop} {rt:Nat->List Value} {fp:Nat->List Nat} (h:cc C st bY w I rt fp) (aD:rA cj.g st) (ax:rB cj.h st) (bh:∀k,∀id∈(gt cj.g k).ids,(az cj.h id).isSome=true):cc C cj bY w I rt fp where
 n:=h.n
 i0:=h.i0
 i1:=h.i1
 ib:=h.ib
 tree:=fun id t af=>h.tree id t (ax.get id t af)
 dis:=fun i j t u hi al=>h.dis i j t u (ax.get i t hi) (ax.get j u al)
 tmp:=fun k=>by
  rcases aD.get k with e|e
  ·rw[e];exact .dead _
  ·have:=bh k;rw[e] at this|-;refine(h.tmp k).xU (fun m b aa=>⟨aa,c3.refl w b⟩) (fun id hi t af=>?_);obtain⟨u,aQ⟩:=Option.isSome_iff_exists.1 (this id hi);have:=ax.get id u aQ;rw[af] at this;obtain rfl:=ff this;exact⟨aQ,rfl,rfl,(h.tree id t af).1,fun b _=>c3.refl w b⟩
 frame:=h.frame
 evo:=h.evo
 size:=h.size
 os:=h.os
 tape:=h.tape
 output:=h.output
 pin:=h.pin
def oe (g:List (Nat×aw)) (h:List (Nat×a1)):Bool:=g.all fun q=>q.2.ids.all fun id=>(az h id).isSome
theorem oe.get {g:List (Nat×aw)} {h:List (Nat×a1)} (ax:oe g h=true) (k:Nat):∀id∈(gt g k).ids,(az h id).isSome=true:=by
 intro id bh;unfold gt at bh;cases ac:az g k with
 |none=>rw[ac] at bh;simp[aw.ids] at bh
 |some av=>
  rw[ac] at bh;have ao:(k,av)∈g:=by
   clear ax bh
   induction g with
   |nil=>cases ac
   |cons q r aT=>
    obtain⟨k0,a0⟩:=q;rw[db] at ac;split at ac
    ·rename_i e;subst e;obtain rfl:=ff ac;simp
    ·exact f6 _ (aT ac)
  simp only[oe,fk] at ax;exact ax (k,av) ao id bh
section
mutual
def ei (P:Program):aq->TypeId->Prop
 |.int k,T=>∃i,P.info? T=some i/\i.size=1/\i.bytes<=24/\i.zero=some (.int k 0)/\P.underlying T=some (.int k)
 |.bool,T=>∃i,P.info? T=some i/\i.size=1/\i.bytes<=24/\i.zero=some (.bool false)/\P.underlying T=some .bool
 |.str,T=>∃i,P.info? T=some i/\i.size=1/\i.bytes<=24/\i.zero=some (.string ByteArray.empty)/\P.underlying T=some .string
 |.bJ _ t,T=>∃i E,P.info? T=some i/\i.size=1/\i.bytes<=24/\i.zero=some (.slice none 0 0)/\P.underlying T=some (.slice E)/\ei P t E
 |.osl t,T=>∃i E,P.info? T=some i/\i.size=1/\i.bytes<=24/\i.zero=some (.slice none 0 0)/\P.underlying T=some (.slice E)/\ei P t E
 |.ptr _ t,T=>∃i E,P.info? T=some i/\i.size=1/\i.bytes<=24/\i.zero=some (.pointer none)/\P.underlying T=some (.pointer E)/\ei P t E
 |.optr t,T=>∃i E,P.info? T=some i/\i.size=1/\i.bytes<=24/\i.zero=some (.pointer none)/\P.underlying T=some (.pointer E)/\ei P t E
 |.st t,T=>0<t.size/\∃i fs zs,P.info? T=some i/\i.size=t.size/\i.bytes<=24*t.size/\i.zero=some (.agg zs)/\P.underlying T=some (.struct fs)/\ji P t fs.toList 0 zs.toList/\zs.size=t.size
 |.mp t,T=>∃i K E,P.info? T=some i/\i.size=1/\i.bytes<=24/\i.zero=some (.map none)/\P.underlying T=some (.map K E)/\P.underlying K=some (.int .i64)/\ei P t E
 |.ee _ t,T=>∃i K E,P.info? T=some i/\i.size=1/\i.bytes<=24/\i.zero=some (.map none)/\P.underlying T=some (.map K E)/\P.underlying K=some (.int .i64)/\ei P t E
 |_,_=>False
def ji (P:Program):aq->List Field->Nat->List Value->Prop
 |.pr a b,f::r,off,zs=>f.offset=off/\ei P a f.type/\0<a.size/\(∃i z,P.info? f.type=some i/\i.zero=some z/\zs.take a.size=z.cells.toList)/\ji P b r (off+a.size) (zs.drop a.size)
 |.nil,[],_,zs=>zs=[]
 |_,_,_,_=>False
end
def tz:aq->Bool
 |.st _=>true
 |_=>false
structure af1 (P:Program) (τ:aq) (T:TypeId) (i:TypeInfo):Prop where
 info:P.info? T=some i
 size:i.size=τ.size
 bytes:i.bytes<=24*τ.size
 pos:0<τ.size
theorem ei.info {P:Program}:∀{τ:aq} {T:TypeId},ei P τ T->∃i d,af1 P τ T i/\P.underlying T=some d/\(match d with|.struct _|.array _ _=>true|_=>false)=tz τ
 |.int _,_,⟨i,J,R,ae,_,aX⟩=>⟨i,_,⟨J,R,ae,by simp[aq.size]⟩,aX,rfl⟩
 |.bool,_,⟨i,J,R,ae,_,aX⟩=>⟨i,_,⟨J,R,ae,by simp[aq.size]⟩,aX,rfl⟩
 |.str,_,⟨i,J,R,ae,_,aX⟩=>⟨i,_,⟨J,R,ae,by simp[aq.size]⟩,aX,rfl⟩
 |.bJ _ _,_,⟨i,_,J,R,ae,_,aX,_⟩=>⟨i,_,⟨J,R,ae,by simp[aq.size]⟩,aX,rfl⟩
 |.osl _,_,⟨i,_,J,R,ae,_,aX,_⟩=>⟨i,_,⟨J,R,ae,by simp[aq.size]⟩,aX,rfl⟩
 |.ptr _ _,_,⟨i,_,J,R,ae,_,aX,_⟩=>⟨i,_,⟨J,R,ae,by simp[aq.size]⟩,aX,rfl⟩
 |.optr _,_,⟨i,_,J,R,ae,_,aX,_⟩=>⟨i,_,⟨J,R,ae,by simp[aq.size]⟩,aX,rfl⟩
 |.st t,_,⟨aU,i,_,_,J,R,ae,_,aX,_⟩=>⟨i,_,⟨J,R,ae,aU⟩,aX,rfl⟩
 |.pr _ _,_,h=>h.elim
 |.nil,_,h=>h.elim
 |.dw,_,h=>h.elim
 |.mp _,_,⟨i,_,_,J,R,ae,_,aX,_⟩=>⟨i,_,⟨J,R,ae,by simp[aq.size]⟩,aX,rfl⟩
 |.ee _ _,_,⟨i,_,_,J,R,ae,_,aX,_⟩=>⟨i,_,⟨J,R,ae,by simp[aq.size]⟩,aX,rfl⟩
theorem ei.Pu {P:Program}:∀{τ:aq} {T:TypeId},ei P τ T->∃z,z.cells.size=τ.size/\∀i,P.info? T=some i->i.zero=some z
 |.int _,_,⟨i,J,_,_,aI,_⟩|.bool,_,⟨i,J,_,_,aI,_⟩|.str,_,⟨i,J,_,_,aI,_⟩=>⟨_,rfl,fun j al=>by rw[J] at al;cases al;exact aI⟩
 |.bJ _ _,_,⟨i,_,J,_,_,aI,_⟩|.osl _,_,⟨i,_,J,_,_,aI,_⟩|.ptr _ _,_,⟨i,_,J,_,_,aI,_⟩|.optr _,_,⟨i,_,J,_,_,aI,_⟩=>⟨_,rfl,fun j al=>by rw[J] at al;cases al;exact aI⟩
 |.st t,_,⟨aU,i,_,zs,J,R,ae,aI,aX,_,eO⟩=>⟨.agg zs,eO,fun j al=>by rw[J] at al;cases al;exact aI⟩
 |.pr _ _,_,h=>h.elim
 |.nil,_,h=>h.elim
 |.dw,_,h=>h.elim
 |.mp _,_,⟨i,_,_,J,_,_,aI,_⟩=>⟨_,rfl,fun j al=>by rw[J] at al;cases al;exact aI⟩
 |.ee _ _,_,⟨i,_,_,J,_,_,aI,_⟩=>⟨_,rfl,fun j al=>by rw[J] at al;cases al;exact aI⟩
section
variable {P:Program} {τ:aq} {T:TypeId}
theorem ei.sizeOf (h:ei P τ T) (w:World):(Go.sizeOf T).run P w=.ok τ.size w:=by obtain⟨i,d,hi,_⟩:=h.info;simp[Go.sizeOf,typeInfo,hi.info,hi.size]
theorem ei.isAgg (h:ei P τ T) (w:World):(Go.isAgg T).run P w=.ok (tz τ) w:=by obtain⟨i,d,hi,aQ,aN⟩:=h.info;simp only[Go.isAgg,Sem.run_bind,run_underlying aQ,Result.andThen_ok];rw[<-aN];cases d<;>rfl
theorem ei.pos (h:ei P τ T):0<τ.size:=by obtain⟨i,d,hi,_⟩:=h.info;exact hi.pos
theorem RP:∀{τ:aq} {T:TypeId},ei P τ T->tz τ=false->τ.size=1
 |.int _,_,_,_|.bool,_,_,_|.str,_,_,_|.bJ _ _,_,_,_|.osl _,_,_,_|.ptr _ _,_,_,_|.optr _,_,_,_|.mp _,_,_,_|.ee _ _,_,_,_=>rfl
 |.st _,_,_,h=>by cases h
 |.pr _ _,_,h,_=>h.elim
 |.nil,_,h,_=>h.elim
 |.dw,_,h,_=>h.elim
theorem MA {cs:List Value} (h:tz τ=false):cH τ cs=cs.headD undef:=by cases τ<;>first|rfl|cases h
theorem MB {cs:List Value} (h:tz τ=true):cH τ cs=.agg cs.toArray:=by cases τ<;>first|rfl|cases h
theorem sn {cs:List Value} (h:ei P τ T) (ah:cs.length=τ.size) (J:∀v∈cs,v.oneCell'=true):(cH τ cs).cells=cs.toArray:=by
 cases hs:tz τ with
 |true=>rw[MB hs];rfl
 |false=>
  rw[MA hs];rw[RP h hs] at ah;obtain⟨v,rfl⟩:=BB.1 ah;have:=J v (by simp);cases v<;>first|rfl|(simp[Value.oneCell'] at this)
theorem aa9 {w:World} {b o:Nat} {cs:List Value} (h:ei P τ T) (aG:es w b o cs) (ah:cs.length=τ.size):(loadVar T ⟨b,o,none⟩).run P w=.ok (cH τ cs) w:=by
 simp only[loadVar,Sem.run_bind,h.isAgg,Result.andThen_ok];cases hs:tz τ with
 |true=>
  simp only[if_true,Sem.run_bind,h.sizeOf,Result.andThen_ok];rw[<-ah,run_loadCells_list w ⟨b,o,none⟩ cs (fun j v al=>by rw[Addr.add_lit];exact aG j v al)];rw[MB hs];rfl
 |false=>
  rw[RP h hs] at ah;obtain⟨v,rfl⟩:=BB.1 ah;have:=aG 0 v rfl;simp only[pg] at this;rw[MA hs];simp[this]
end
def nL:(τ:aq)->Option τ.den
 |.int _=>some (0:Int)
 |.bool=>some false
 |.str=>some ByteArray.empty
 |.bJ _ _=>some []
 |.osl _=>some []
 |.ptr _ _=>some none
 |.optr _=>none
 |.st t=>nL t
 |.pr a b=>match nL a,nL b with|some x,some y=>some (x,y)|_,_=>none
 |.nil=>some ()
 |.dw=>none
 |.mp _=>some none
 |.ee _ _=>some none
mutual
theorem Bp {P:Program}:∀{τ:aq} {T:TypeId} {z:τ.den},ei P τ T->nL τ=some z->∃i il,P.info? T=some i/\i.zero=some il/\il=cH τ il.cells.toList/\∀(M:du->Nat->Prop) (w:World),bi M w τ il.cells.toList z []
 |.int k,_,z,⟨i,J,R,ae,aI,aX⟩,aZ=>⟨i,_,J,aI,rfl,fun M w=>by cases aZ;exact⟨rfl,rfl⟩⟩
 |.bool,_,z,⟨i,J,R,ae,aI,aX⟩,aZ=>⟨i,_,J,aI,rfl,fun M w=>by cases aZ;exact⟨rfl,rfl⟩⟩
 |.str,_,z,⟨i,J,R,ae,aI,aX⟩,aZ=>⟨i,_,J,aI,rfl,fun M w=>by cases aZ;exact⟨rfl,rfl⟩⟩
 |.bJ _ _,_,z,⟨i,_,J,R,ae,aI,aX,_⟩,aZ=>⟨i,_,J,aI,rfl,fun M w=>by cases aZ;exact⟨rfl,none,0,rfl,bS _,fun _=>rfl,.inl rfl⟩⟩
 |.osl _,_,z,⟨i,_,J,R,ae,aI,aX,_⟩,aZ=>⟨i,_,J,aI,rfl,fun M w=>by cases aZ;exact⟨none,0,rfl,.inl ⟨rfl,rfl,rfl,rfl⟩⟩⟩
 |.ptr _ _,_,z,⟨i,_,J,R,ae,aI,aX,_⟩,aZ=>⟨i,_,J,aI,rfl,fun M w=>by cases aZ;exact⟨rfl,rfl⟩⟩
 |.optr _,_,_,_,aZ=>by cases aZ
 |.st t,_,z,⟨_,i,fs,zs,J,R,ae,aI,aX,bI,_⟩,aZ=>⟨i,_,J,aI,rfl,fun M w=>aci (τ:=t) bI aZ M w⟩
 |.pr _ _,_,_,h,_=>h.elim
 |.nil,_,_,h,_=>h.elim
 |.dw,_,_,h,_=>h.elim
 |.mp _,_,z,⟨i,_,_,J,R,ae,aI,aX,_⟩,aZ=>⟨i,_,J,aI,rfl,fun M w=>by cases aZ;exact⟨rfl,rfl⟩⟩
 |.ee _ _,_,z,⟨i,_,_,J,R,ae,aI,aX,_⟩,aZ=>⟨i,_,J,aI,rfl,fun M w=>by cases aZ;exact⟨rfl,rfl⟩⟩
theorem aci {P:Program}:∀{τ:aq} {fs:List Field} {off:Nat} {zs:List Value} {z:τ.den},ji P τ fs off zs->nL τ=some z->∀(M:du->Nat->Prop) (w:World),bi M w τ zs z []
 |.pr a b,f::r,off,zs,z,h,aZ,M,w=>by
  obtain⟨J,R,ae,⟨i,il,aK,aL,a8⟩,aI⟩:=h;simp only[nL] at aZ;split at aZ
  ·rename_i x y ab aB;cases aZ;obtain⟨kB,aw9,bX,bn,_,a9⟩:=Bp (τ:=a) R ab;rw[aK] at bX;obtain rfl:=ff bX;rw[aL] at bn;obtain rfl:=ff bn;exact⟨[],[],rfl,by rw[a8];exact a9 M w,aci (τ:=b) aI aB M w⟩
  ·cases aZ
 |.nil,[],_,zs,z,h,aZ,M,w=>⟨rfl,h⟩
 |.pr _ _,[],_,_,_,h,_,_,_=>h.elim
 |.nil,_::_,_,_,_,h,_,_,_=>h.elim
 |.int _,_,_,_,_,h,_,_,_=>by cases h
 |.bool,_,_,_,_,h,_,_,_=>by cases h
 |.str,_,_,_,_,h,_,_,_=>by cases h
 |.bJ _ _,_,_,_,_,h,_,_,_=>by cases h
 |.osl _,_,_,_,_,h,_,_,_=>by cases h
 |.ptr _ _,_,_,_,_,h,_,_,_=>by cases h
 |.optr _,_,_,_,_,h,_,_,_=>by cases h
 |.st _,_,_,_,_,h,_,_,_=>by cases h
 |.dw,_,_,_,_,h,_,_,_=>by cases h
 |.mp _,_,_,_,_,h,_,_,_=>by cases h
 |.ee _ _,_,_,_,_,h,_,_,_=>by cases h
end
def bF:aq->aq->Bool
 |.int k,.int cN=>if k=cN then true else false
 |.bool,.bool|.str,.str|.nil,.nil=>true
 |.bJ _ t,.bJ _ u|.bJ _ t,.osl u|.osl t,.bJ _ u|.osl t,.osl u=>bF t u
 |.ptr _ t,.ptr _ u|.ptr _ t,.optr u|.optr t,.ptr _ u|.optr t,.optr u=>bF t u
 |.st t,.st u=>bF t u
 |.mp t,.mp u|.mp t,.ee _ u|.ee _ t,.mp u|.ee _ t,.ee _ u=>bF t u
 |.pr a b,.pr c d=>bF a c&&bF b d
 |_,_=>false
theorem bF.size:∀{τ υ:aq},bF τ υ=true->τ.size=υ.size:=by
 intro τ
 induction τ with
 |st t aT=>intro υ h;cases υ<;>simp only[bF] at h<;>first|(simp only[aq.size];exact aT h)|cases h
 |pr a b vi vj=>
  intro υ h;cases υ<;>simp only[bF] at h<;>try (cases h;done)
  simp only[bM] at h;simp only[aq.size];rw[vi h.1,vj h.2]
 |_=>intro υ h;cases υ<;>simp[bF] at h<;>simp[aq.size]
mutual
theorem ei.lay {P:Program}:∀{τ υ:aq} {T:TypeId},bF τ υ=true->ei P τ T->ei P υ T
 |.int k,υ,_,hs,h=>by cases υ<;>simp[bF] at hs;subst hs;exact h
 |.bool,υ,_,hs,h=>by cases υ<;>simp[bF] at hs;exact h
 |.str,υ,_,hs,h=>by cases υ<;>simp[bF] at hs;exact h
 |.bJ _ t,υ,_,hs,h=>by obtain⟨i,E,J,R,ae,aI,aX,bI⟩:=h;cases υ<;>simp only[bF] at hs<;>first|exact⟨i,E,J,R,ae,aI,aX,ei.lay hs bI⟩|cases hs
 |.osl t,υ,_,hs,h=>by obtain⟨i,E,J,R,ae,aI,aX,bI⟩:=h;cases υ<;>simp only[bF] at hs<;>first|exact⟨i,E,J,R,ae,aI,aX,ei.lay hs bI⟩|cases hs
 |.ptr _ t,υ,_,hs,h=>by obtain⟨i,E,J,R,ae,aI,aX,bI⟩:=h;cases υ<;>simp only[bF] at hs<;>first|exact⟨i,E,J,R,ae,aI,aX,ei.lay hs bI⟩|cases hs
 |.optr t,υ,_,hs,h=>by obtain⟨i,E,J,R,ae,aI,aX,bI⟩:=h;cases υ<;>simp only[bF] at hs<;>first|exact⟨i,E,J,R,ae,aI,aX,ei.lay hs bI⟩|cases hs
 |.st t,υ,_,hs,h=>by
  obtain⟨aU,i,fs,zs,J,R,ae,aI,aX,bI,eO⟩:=h;cases υ<;>simp only[bF] at hs<;>try (cases hs;done)
  have:=bF.size hs;exact⟨by omega,i,fs,zs,J,by omega,by omega,aI,aX,ji.lay hs bI,by omega⟩
 |.pr _ _,_,_,_,h=>h.elim
 |.nil,_,_,_,h=>h.elim
 |.dw,_,_,_,h=>h.elim
 |.mp t,υ,_,hs,h=>by obtain⟨i,K,E,J,R,ae,aI,aX,bI,eO⟩:=h;cases υ<;>simp only[bF] at hs<;>first|exact⟨i,K,E,J,R,ae,aI,aX,bI,ei.lay hs eO⟩|cases hs
 |.ee _ t,υ,_,hs,h=>by obtain⟨i,K,E,J,R,ae,aI,aX,bI,eO⟩:=h;cases υ<;>simp only[bF] at hs<;>first|exact⟨i,K,E,J,R,ae,aI,aX,bI,ei.lay hs eO⟩|cases hs
theorem ji.lay {P:Program}:∀{τ υ:aq} {fs:List Field} {off:Nat} {zs:List Value},bF τ υ=true->ji P τ fs off zs->ji P υ fs off zs
 |.pr a b,υ,f::r,off,zs,hs,h=>by
  obtain⟨J,R,ae,aI,aX⟩:=h;cases υ<;>simp only[bF] at hs<;>try (cases hs;done)
  simp only[bM] at hs;have:=bF.size hs.1;exact⟨J,ei.lay hs.1 R,by omega,by rw[<-this];exact aI,by rw[<-this];exact ji.lay hs.2 aX⟩
 |.nil,υ,[],_,_,hs,h=>by cases υ<;>simp[bF] at hs;exact h
 |.pr _ _,_,[],_,_,_,h=>h.elim
 |.nil,_,_::_,_,_,_,h=>h.elim
 |.int _,_,_,_,_,_,h=>by cases h
 |.bool,_,_,_,_,_,h=>by cases h
 |.str,_,_,_,_,_,h=>by cases h
 |.bJ _ _,_,_,_,_,_,h=>by cases h
 |.osl _,_,_,_,_,_,h=>by cases h
 |.ptr _ _,_,_,_,_,_,h=>by cases h
 |.optr _,_,_,_,_,_,h=>by cases h
 |.st _,_,_,_,_,_,h=>by cases h
 |.dw,_,_,_,_,_,h=>by cases h
 |.mp _,_,_,_,_,_,h=>by cases h
end
structure yV where
 b:Nat
 T:TypeId
 k:IntKind
 xs:List Int
def TP (P:Program) (g:yV):Prop:=∃S,P.underlying g.T=some (.array g.xs.length S)/\ei P (.int g.k) S
structure eI where
 P:Program
 tt:List (TypeId×aq)
 ok:∀T τ,az tt T=some τ->ei P τ T
 mix:P.follows .mixedOrders=true
 glob:List yV:=[]
 gok:∀g∈glob,TP P g:=by intro g h;cases h
end
section
def gv:Nat:=4294967296
def bb {α:Type} (xs:List α) (i:Int):Option α:=if 0<=i then xs[i.toNat]? else none
theorem Wf {α:Type} {xs:List α} {i:Int} {y:α} (h:bb xs i=some y):i=(i.toNat:Int)/\i.toNat<xs.length/\xs[i.toNat]?=some y:=by
 unfold bb at h;split at h
 ·exact⟨by omega,(e9.1 h).1,h⟩
 ·cases h
inductive hY where
 |d2 (av:aw) (new:List (Nat×a1))
 |part (α:Type) (iV:α->Prop) (f:α->aw×List (Nat×a1))
 |bad
def hY.K (r:hY) (Q:aw->List (Nat×a1)->Prop):Prop:=
 match r with
 |.d2 av new=>Q av new
 |.part α iV f=>∃y:α,iV y/\Q (f y).1 (f y).2
 |.bad=>False
def aq.pure:aq->Bool
 |.osl _|.optr _|.dw|.mp _=>false
 |.st t=>t.pure
 |.pr a b=>a.pure&&b.pure
 |_=>true
def el:aq->List bw->Option aq
 |τ,[]=>some τ
 |.osl t,.idx _::p=>el t p
 |.optr t,.deref::p=>el t p
 |.mp t,.deref::p=>el t p
 |.st t,.unst::p=>el t p
 |.pr a _,.fst::p=>el a p
 |.pr _ b,.snd::p=>el b p
 |_,_=>none
def ez:aq->Nat->Option (List bw×aq)
 |.pr a _,0=>some ([.fst],a)
 |.pr _ b,n+1=>match ez b n with|some q=>some (.snd::q.1,q.2)|none=>none
 |_,_=>none
def dU:aq->Nat->Nat
 |.pr _ _,0=>0
 |.pr a b,n+1=>a.size+dU b n
 |_,_=>0
def uX:(τ:aq)->τ.den->Nat->Option a1
 |.pr a _,x,0=>some ⟨a,x.1⟩
 |.pr _ b,x,n+1=>uX b x.2 n
 |_,_,_=>none
theorem OW {P:Program}:∀{τ:aq} {fs:List Field} {off:Nat} {zs:List Value} {n:Nat} {s:List bw} {τf:aq},ji P τ fs off zs->ez τ n=some (s,τf)->∃f,fs[n]?=some f/\f.offset=off+dU τ n/\ei P τf f.type
 |.pr a b,f::r,off,zs,0,s,τf,h,ag=>by simp only[ez,cI,gz] at ag;obtain⟨rfl,rfl⟩:=ag;exact⟨f,rfl,by rw[h.1];rfl,h.2.1⟩
 |.pr a b,f::r,off,zs,n+1,s,τf,h,ag=>by
  simp only[ez] at ag;split at ag
  ·rename_i q ai;simp only[cI,gz] at ag;obtain⟨rfl,rfl⟩:=ag;obtain⟨hM,J,R,ae⟩:=OW (τ:=b) h.2.2.2.2 (s:=q.1) (τf:=q.2) ai;exact⟨hM,by simpa using J,by rw[R];simp only[dU];omega,ae⟩
  ·cases ag
 |.pr _ _,[],_,_,_,_,_,h,_=>h.elim
 |.int _,_,_,_,_,_,_,_,ag=>by cases ag
 |.bool,_,_,_,_,_,_,_,ag=>by cases ag
 |.str,_,_,_,_,_,_,_,ag=>by cases ag
 |.bJ _ _,_,_,_,_,_,_,_,ag=>by cases ag
 |.osl _,_,_,_,_,_,_,_,ag=>by cases ag
 |.ptr _ _,_,_,_,_,_,_,_,ag=>by cases ag
 |.optr _,_,_,_,_,_,_,_,ag=>by cases ag
 |.st _,_,_,_,_,_,_,_,ag=>by cases ag
 |.nil,_,_,_,_,_,_,_,ag=>by cases ag
 |.dw,_,_,_,_,_,_,_,ag=>by cases ag
theorem OZ:∀{τ:aq} {x:τ.den} {n:Nat} {t:a1},uX τ x n=some t->∃s,ez τ n=some (s,t.1)
 |.pr a b,x,0,t,h=>by simp only[uX,cI] at h;subst h;exact⟨_,rfl⟩
 |.pr a b,x,n+1,t,h=>by obtain⟨s,hs⟩:=OZ (τ:=b) h;exact⟨.snd::s,by simp[ez,hs]⟩
 |.int _,_,_,_,h=>by cases h
 |.bool,_,_,_,h=>by cases h
 |.str,_,_,_,h=>by cases h
 |.bJ _ _,_,_,_,h=>by cases h
 |.osl _,_,_,_,h=>by cases h
 |.ptr _ _,_,_,_,h=>by cases h
 |.optr _,_,_,_,h=>by cases h
 |.st _,_,_,_,h=>by cases h
 |.nil,_,_,_,h=>by cases h
 |.dw,_,_,_,h=>by cases h
theorem Co:∀{τ:aq} {n:Nat} {s:List bw} {tf:aq},ez τ n=some (s,tf)->dU τ n+tf.size<=τ.size
 |.pr a b,0,s,tf,h=>by simp only[ez,cI,gz] at h;obtain⟨_,rfl⟩:=h;simp[dU,aq.size]
 |.pr a b,n+1,s,tf,h=>by
  simp only[ez] at h;split at h
  ·rename_i q ai;simp only[cI,gz] at h;obtain⟨_,rfl⟩:=h;have:=Co (τ:=b) (s:=q.1) (tf:=q.2) ai;simp only[dU,aq.size];omega
  ·cases h
 |.int _,_,_,_,h=>by cases h
 |.bool,_,_,_,h=>by cases h
 |.str,_,_,_,h=>by cases h
 |.bJ _ _,_,_,_,h=>by cases h
 |.osl _,_,_,_,h=>by cases h
 |.ptr _ _,_,_,_,h=>by cases h
 |.optr _,_,_,_,h=>by cases h
 |.st _,_,_,_,h=>by cases h
 |.nil,_,_,_,h=>by cases h
 |.dw,_,_,_,h=>by cases h
theorem OY {M:du->Nat->Prop} {w:World}:∀{τ:aq} {x:τ.den} {n:Nat} {t:a1} {cs:List Value},bi M w τ cs x []->uX τ x n=some t->bi M w t.1 ((cs.drop (dU τ n)).take t.1.size) t.2 []/\dU τ n+t.1.size<=τ.size
 |.pr a b,x,0,t,cs,hr,h=>by simp only[uX,cI] at h;subst h;obtain⟨f1,cC,aF,J,R⟩:=hr;obtain⟨rfl,rfl⟩:f1=[]/\cC=[]:=(by simpa[eq_comm] using aF);exact⟨by simpa[dU] using J,by simp[dU,aq.size]⟩
 |.pr a b,x,n+1,t,cs,hr,h=>by obtain⟨f1,cC,aF,J,R⟩:=hr;obtain⟨rfl,rfl⟩:f1=[]/\cC=[]:=(by simpa[eq_comm] using aF);obtain⟨ae,aI⟩:=OY (τ:=b) R h;refine⟨?_,by simp only[dU,aq.size];omega⟩;simp only[dU];rwa[uj] at ae
 |.int _,_,_,_,_,_,h=>by cases h
 |.bool,_,_,_,_,_,h=>by cases h
 |.str,_,_,_,_,_,h=>by cases h
 |.bJ _ _,_,_,_,_,_,h=>by cases h
 |.osl _,_,_,_,_,_,h=>by cases h
 |.ptr _ _,_,_,_,_,_,h=>by cases h
 |.optr _,_,_,_,_,_,h=>by cases h
 |.st _,_,_,_,_,_,h=>by cases h
 |.nil,_,_,_,_,_,h=>by cases h
 |.dw,_,_,_,_,_,h=>by cases h
theorem bk.fH {w:World} {τ τ':aq} {l l':Loc} {cs b3:List Value}:bk w τ l cs [] τ' l' b3↔τ=τ'/\l=l'/\cs=b3:=by cases τ<;>exact Iff.rfl
theorem bk.append {w:World}:∀{p q:List bw} {τ nM f2:aq} {l da l2:Loc} {cs c4 cd:List Value},bk w τ l cs p nM da c4->bk w nM da c4 q f2 l2 cd->bk w τ l cs (p++q) f2 l2 cd
 |[],q,τ,_,_,_,_,_,_,_,_,h,a2=>by obtain⟨rfl,rfl,rfl⟩:=bk.fH.1 h;exact a2
 |s::p,q,τ,_,_,_,_,_,_,_,_,h,a2=>by
  cases τ<;>cases s<;>simp only[bk] at h
  case osl.idx t i=>
   obtain⟨b,o,len,cap,ds,J,R,ae,aI,aX⟩:=h;exact⟨b,o,len,cap,ds,J,R,ae,aI,aX.append a2⟩
  case optr.deref t=>
   obtain⟨b,o,ds,J,R,ae,aI⟩:=h;exact⟨b,o,ds,J,R,ae,aI.append a2⟩
  case st.unst t=>exact bk.append (p:=p) (τ:=t) h a2
  case pr.fst t1 t2=>exact bk.append (p:=p) (τ:=t1) h a2
  case pr.snd t1 t2=>exact bk.append (p:=p) (τ:=t2) h a2
theorem bk.here {w:World} {τ:aq} {l:Loc} {cs:List Value}:bk w τ l cs [] τ l cs:=by cases τ<;>exact⟨rfl,rfl,rfl⟩
theorem bk.ty {w:World}:∀{p:List bw} {τ τ':aq} {l l':Loc} {cs b3:List Value},bk w τ l cs p τ' l' b3->el τ p=some τ'
 |[],τ,_,_,_,_,_,h=>by obtain⟨rfl,_⟩:=bk.fH.1 h;cases τ<;>rfl
 |s::p,τ,_,_,_,_,_,h=>by
  cases τ<;>cases s<;>simp only[bk] at h
  case osl.idx t i=>obtain⟨b,o,len,cap,ds,J,R,ae,aI,aX⟩:=h;exact aX.ty
  case optr.deref t=>obtain⟨b,o,ds,J,R,ae,aI⟩:=h;exact aI.ty
  case st.unst t=>exact bk.ty (p:=p) (τ:=t) h
  case pr.fst t1 t2=>exact bk.ty (p:=p) (τ:=t1) h
  case pr.snd t1 t2=>exact bk.ty (p:=p) (τ:=t2) h
theorem bk.at {w:World}:∀{p:List bw} {τ τ':aq} {l l':Loc} {cs b3:List Value},bk w τ l cs p τ' l' b3->cs.length=τ.size->(∀b o,l=some (b,o)->es w b o cs)->b3.length=τ'.size/\∀b o,l'=some (b,o)->es w b o b3
 |[],τ,_,_,_,_,_,h,ah,aG=>by obtain⟨rfl,rfl,rfl⟩:=bk.fH.1 h;exact⟨ah,aG⟩
 |s::p,τ,_,l,_,cs,_,h,ah,aG=>by
  cases τ<;>cases s<;>simp only[bk] at h
  case osl.idx t i=>
   obtain⟨b,o,len,cap,ds,J,R,ae,aI,aX⟩:=h;exact aX.at ae (fun cP bL e=>by simp only[cI,gz] at e;obtain⟨rfl,rfl⟩:=e;exact aI)
  case optr.deref t=>
   obtain⟨b,o,ds,J,R,ae,aI⟩:=h;exact aI.at R (fun cP bL e=>by simp only[cI,gz] at e;obtain⟨rfl,rfl⟩:=e;exact ae)
  case st.unst t=>exact bk.at (τ:=t) h ah aG
  case pr.fst a b=>
   exact bk.at (τ:=a) h (by simp only[aq.size] at ah;simp;omega) (fun b o e=>(aG b o e).take)
  case pr.snd a b=>
   refine bk.at (τ:=b) h (by simp only[aq.size] at ah;simp;omega) (fun cP o e=>?_);cases l with
   |none=>simp at e
   |some q=>
    simp only[g6,cI,gz] at e;obtain⟨rfl,rfl⟩:=e;exact(aG _ _ rfl).drop
theorem bk.KF {w:World}:∀{τ:aq} {n:Nat} {s:List bw} {τf:aq} {l:Loc} {cs:List Value},ez τ n=some (s,τf)->bk w τ l cs s τf (l.map fun q=>(q.1,q.2+dU τ n)) ((cs.drop (dU τ n)).take τf.size)
 |.pr a b,0,s,τf,l,cs,h=>by
  simp only[ez,cI,gz] at h;obtain⟨rfl,rfl⟩:=h;have:(l.map fun q=>(q.1,q.2+dU (.pr a b) 0))=l:=(by cases l<;>simp[dU]);rw[this];simp only[bk,dU,rf]
  first|exact bk.here|exact⟨rfl,rfl,rfl⟩|trivial|simp
 |.pr a b,n+1,s,τf,l,cs,h=>by
  simp only[ez] at h;split at h
  ·rename_i q ai;simp only[cI,gz] at h;obtain⟨rfl,rfl⟩:=h;have:=bk.KF (w:=w) (τ:=b) (s:=q.1) (τf:=q.2) (l:=l.map fun q=>(q.1,q.2+a.size)) (cs:=cs.drop a.size) ai;simp only[bk,dU];rw[uj] at this;cases l with
   |none=>exact this
   |some lG=>simp only[g6,BE] at this|-;exact this
  ·cases h
 |.int _,_,_,_,_,_,ag=>by cases ag
 |.bool,_,_,_,_,_,ag=>by cases ag
 |.str,_,_,_,_,_,ag=>by cases ag
 |.bJ _ _,_,_,_,_,_,ag=>by cases ag
 |.osl _,_,_,_,_,_,ag=>by cases ag
 |.ptr _ _,_,_,_,_,_,ag=>by cases ag
 |.optr _,_,_,_,_,_,ag=>by cases ag
 |.st _,_,_,_,_,_,ag=>by cases ag
 |.nil,_,_,_,_,_,ag=>by cases ag
 |.dw,_,_,_,_,_,ag=>by cases ag
theorem dr.uniq:∀{p:List bw} {τ:aq} {x:τ.den} {τ':aq} {y y':τ'.den},dr τ x p τ' y->dr τ x p τ' y'->y=y'
 |[],τ,_,_,_,_,h,a2=>by obtain⟨rfl,h⟩:=dr.fH.1 h;obtain⟨_,a2⟩:=dr.fH.1 a2;exact h.symm.trans a2
 |s::p,τ,_,_,_,_,h,a2=>by
  cases τ<;>cases s<;>simp only[dr] at h a2
  case osl.idx=>
   obtain⟨e,aE,h⟩:=h;obtain⟨dy,u1,a2⟩:=a2;rw[aE] at u1;obtain rfl:=ff u1;exact h.uniq a2
  case optr.deref=>exact dr.uniq (p:=p) h a2
  case st.unst=>exact dr.uniq (p:=p) h a2
  case pr.fst=>exact dr.uniq (p:=p) h a2
  case pr.snd=>exact dr.uniq (p:=p) h a2
def Yields (E:eI) (C:dZ) (st:ba) (a:Act) (w:World) (I:Nat->Prop) (rt:Nat->List Value) (fp:Nat->List Nat) (o:Oper) (Q:aw->List (Nat×a1)->Prop):Prop:=
 ∃v w' I' rtn fpn av new,(execOp a.eval o).run E.P w=.ok (.value v) w'/\hV w w'/\(∀b,I b->I' b)/\(∀b,I' b->I b\/(w.heap.size<=b/\b<w'.heap.size))/\BF C st w w' I' new rtn fpn/\cw (bK I' C.B) w' (new++st.h) (d9 new rtn rt) (d9 new fpn fp) av v/\Q av new
section
variable {E:eI} {C:dZ} {st:ba} {a:Act} {w:World} {I:Nat->Prop} {rt:Nat->List Value} {fp:Nat->List Nat} {o:Oper} {Q:aw->List (Nat×a1)->Prop}
theorem Yields.pure {v:Value} {av:aw} (hr:(execOp a.eval o).run E.P w=.ok (.value v) w) (hv:cw (bK I C.B) w st.h rt fp av v) (ai:Q av []):Yields E C st a w I rt fp o Q:=
 ⟨v,w,I,rt,fp,av,[],hr,.refl w,fun _ h=>h,fun _ h=>.inl h,.nil,hv,ai⟩
theorem Yields.wp (ar:cc C st a.tmps w I rt fp) (h:Yields E C st a w I rt fp o Q) {next:Act->World->Prop} {X:Exit->Act->World->Prop} {d:Nat} (aN:o.dst=some d) (c0:C.ok d) (ag:∀av new b2 w',Q av new->b2.defers=a.defers->f7 C ⟨(d,av)::st.g,new++st.h⟩ b2.tmps w'->next b2 w'):o.wp E.P a w next X:=by
 obtain⟨v,w',I',rtn,fpn,av,new,J,R,ae,aI,aX,bI,eO⟩:=h;unfold Oper.wp;rw[J];show next (a.put o.dst v) w'
 rw[aN];exact ag av new _ _ eO rfl ⟨I',_,_,(ar.ext R ae aI aX).put c0 bI⟩
def nl (op:BinOp) (k:IntKind) (x:Int) (cN:IntKind) (y:Int):hY:=
 let z (p:Prop) (r:Int):hY:=if k=cN then .part Int (fun z=>p/\r=z) (fun z=>(.val (.int k) z,[])) else .bad
 let b (r:Bool):hY:=if k=cN then .d2 (.val .bool r) [] else .bad
 match op with
 |.add=>z True (k.wrap (x+y))
 |.sub=>z True (k.wrap (x-y))
 |.mul=>z True (k.wrap (x*y))
 |.quo=>z (y≠0) (k.wrap (x.tdiv y))
 |.rem=>z (y≠0) (x.tmod y)
 |.and=>z True (k.wrap (BitVec.ofInt k.bits x&&&BitVec.ofInt k.bits y).toNat)
 |.or=>z True (k.wrap (BitVec.ofInt k.bits x|||BitVec.ofInt k.bits y).toNat)
 |.xor=>z True (k.wrap (BitVec.ofInt k.bits x^^^BitVec.ofInt k.bits y).toNat)
 |.andNot=>z True (k.wrap (BitVec.ofInt k.bits x&&&~~~BitVec.ofInt k.bits y).toNat)
 |.shl=>.part Int (fun z=>0<=y/\k.wrap (x*2^min y.toNat k.bits)=z) (fun z=>(.val (.int k) z,[]))
 |.shr=>.part Int (fun z=>0<=y/\x.fdiv (2^min y.toNat k.bits)=z) (fun z=>(.val (.int k) z,[]))
 |.eql=>b (x==y)
 |.neq=>b (x !=y)
 |.lss=>b (decide (x<y))
 |.leq=>b (decide (x<=y))
 |.gtr=>b (decide (x>y))
 |.geq=>b (decide (x>=y))
def NP (op:BinOp) (x y:aw):hY:=
 match x,y with
 |.val (.int k) x,.val (.int cN) y=>nl op k x cN y
 |.val .bool x,.val .bool y=>match op with
  |.eql=>.d2 (.val .bool (x==y)) []
  |.neq=>.d2 (.val .bool (!(x==y))) []
  |_=>.bad
 |_,_=>.bad
theorem agH {op:BinOp} {t u:TypeId} {x y:Operand} {k cN:IntKind} {m n:Int} (aH:o.op=.binOp op t x y u) (ab:a.eval x=.int k m) (aB:a.eval y=.int cN n) (h:(nl op k m cN n).K Q):Yields E C st a w I rt fp o Q:=by
 have aD:∀w,(eqGuard op t x y (.int k m) (.int cN n)).run E.P w=.ok () w:=fun w=>(by unfold eqGuard;cases op<;>simp);have shl:op=.shl->Yields E C st a w I rt fp o Q:=(by rintro rfl;simp only[nl] at h;obtain⟨z,⟨aU,rfl⟩,h⟩:=h;exact .pure (v:=.int k _) (by simp[execOp,aH,ab,aB,aD,binOp,Op.shift,show¬n<0 by omega]) (.int k _) h);have shr:op=.shr->Yields E C st a w I rt fp o Q:=(by rintro rfl;simp only[nl] at h;obtain⟨z,⟨aU,rfl⟩,h⟩:=h;exact .pure (v:=.int k _) (by simp[execOp,aH,ab,aB,aD,binOp,Op.shift,show¬n<0 by omega]) (.int k _) h);by_cases ac:k=cN
 case neg=>
  cases op<;>simp only[nl,ac,if_false] at h
  case shl=>exact shl rfl
  case shr=>exact shr rfl
  all_goals exact h.elim
 subst ac;cases op<;>simp only[nl,if_true] at h
 case shl=>exact shl rfl
 case shr=>exact shr rfl
 case quo|rem=>
  obtain⟨z,⟨aU,rfl⟩,h⟩:=h;exact .pure (v:=.int k _) (by simp[execOp,aH,ab,aB,aD,binOp,Op.intDiv,aU]) (.int k _) h
 case add|sub|mul=>
  obtain⟨z,⟨_,rfl⟩,h⟩:=h;exact .pure (v:=.int k _) (by simp[execOp,aH,ab,aB,aD,binOp,Op.intArith]) (.int k _) h
 case and|or|xor|andNot=>
  obtain⟨z,⟨_,rfl⟩,h⟩:=h;exact .pure (v:=.int k _) (by simp only[execOp,aH,ab,aB,Sem.run_bind,aD,binOp,Op.intBits];simp) (.int k _) h
 all_goals exact .pure (v:=.bool _) (by simp[execOp,aH,ab,aB,aD,binOp,Op.intCmp]) (.bool _) h
theorem run_equalIn_bool {P:Program} (w:World) (d:Nat) {t:TypeId} (p q:Bool) (h:P.underlying t=some .bool):(Op.equalIn (d+1) t (.bool p) (.bool q)).run P w=.ok (p==q) w:=by simp[Op.equalIn,run_underlying h]
theorem run_eql_bool {P:Program} (w:World) {t:TypeId} (p q:Bool) (h:P.underlying t=some .bool):(binOp .eql t (.bool p) (.bool q)).run P w=.ok (.bool (p==q)) w:=by simp only[binOp];simp[Op.equal,Op.maxDepth,run_equalIn_bool w 9999 p q h]
theorem run_neq_bool {P:Program} (w:World) {t:TypeId} (p q:Bool) (h:P.underlying t=some .bool):(binOp .neq t (.bool p) (.bool q)).run P w=.ok (.bool (!(p==q))) w:=by simp only[binOp];simp[Op.equal,Op.maxDepth,run_equalIn_bool w 9999 p q h]
theorem UD (ar:cc C st a.tmps w I rt fp) {op:BinOp} {t u:TypeId} {x y:Operand} (aH:o.op=.binOp op t x y u) (aa:∀p q:Bool,(op=.eql\/op=.neq)->(bj st.g x=.val .bool p/\bj st.g y=.val .bool q)->E.P.underlying t=some .bool) (h:(NP op (bj st.g x) (bj st.g y)).K Q):Yields E C st a w I rt fp o Q:=by
 have ab:=ar.bj x;have aB:=ar.bj y;unfold NP at h;split at h
 ·rename_i k m cN n ex i9;rw[ex] at ab;rw[i9] at aB;obtain⟨v,hv⟩:∃v,v=a.eval x:=⟨_,rfl⟩;obtain⟨iG,aQ⟩:∃v,v=a.eval y:=⟨_,rfl⟩;rw[<-hv] at ab;rw[<-aQ] at aB;cases ab with|val bX=>cases aB with|val bn=>
  obtain⟨_,rfl⟩:=bX;obtain⟨_,rfl⟩:=bn;exact agH aH hv.symm aQ.symm h
 ·rename_i p q ex i9;have aQ:=aa p q;have xC:bj st.g x=.val .bool p/\bj st.g y=.val .bool q:=⟨ex,i9⟩;rw[ex] at ab;rw[i9] at aB;obtain⟨v,hv⟩:∃v,v=a.eval x:=⟨_,rfl⟩;obtain⟨iG,mW⟩:∃v,v=a.eval y:=⟨_,rfl⟩;rw[<-hv] at ab;rw[<-mW] at aB;cases ab with|val bX=>cases aB with|val bn=>
  obtain⟨_,rfl⟩:=bX;obtain⟨_,rfl⟩:=bn;have lz:a.eval x=.bool p:=hv.symm;have tp:a.eval y=.bool q:=mW.symm;have aD:∀w,(eqGuard op t x y (.bool p) (.bool q)).run E.P w=.ok () w:=fun w=>(by unfold eqGuard;cases op<;>simp);split at h
  ·have:=aQ (.inl rfl) xC;exact .pure (v:=.bool _) (by simp only[execOp,aH,lz,tp,Sem.run_bind,aD,Result.andThen_ok,run_eql_bool _ _ _ this];rfl) (.bool _) h
  ·have:=aQ (.inr rfl) xC;exact .pure (v:=.bool _) (by simp only[execOp,aH,lz,tp,Sem.run_bind,aD,Result.andThen_ok,run_neq_bool _ _ _ this];rfl) (.bool _) h
  ·exact h.elim
 ·exact h.elim
end
end
section
section
variable {E:eI} {C:dZ} {st:ba} {a:Act} {w:World} {I:Nat->Prop} {rt:Nat->List Value} {fp:Nat->List Nat} {o:Oper} {Q:aw->List (Nat×a1)->Prop}
theorem cc.notM {bY:Array Value} (ar:cc C st bY w I rt fp) {id:Nat} {t:a1} (af:az st.h id=some t):∀b∈fp id,∀m,¬bK I C.B m b:=fun b aa m ao=>by
 have:=(ar.tree id t af).2.2 b aa;rcases pQ ao with h|h
 ·exact this.1 h
 ·exact this.2.1 h
theorem cc.l3 {bY:Array Value} (ar:cc C st bY w I rt fp) {id:Nat} {t:a1} (af:az st.h id=some t) {p:List bw} {τ:aq} {y:τ.den} (aD:dr t.1 t.2 p τ y) {τ':aq} {loc:Loc} {cs:List Value} (ag:bk w t.1 none (rt id) p τ' loc cs):∃_e:τ'=τ,∃f,bi (bK I C.B) w τ cs y f/\sM w loc cs τ.size/\∀b∈f,b∈fp id:=by obtain⟨hr,eh,_⟩:=ar.tree id t af;obtain⟨dE,b3,f,dK,bT,bz,cZ,cU,_⟩:=KG p (loc:=none) hr (fun _ _ h=>by cases h) eh (fun _ _ h=>by cases h) (ar.notM af) aD;obtain⟨rfl,rfl,rfl⟩:=ag.jX bT;exact⟨rfl,f,bz,cZ,fun b aa=>cU.mem_iff.2 (by simp[aa])⟩
theorem cc.aaW {bY:Array Value} (ar:cc C st bY w I rt fp) {id:Nat} {t:a1} (af:az st.h id=some t) {p:List bw} {τ':aq} {loc:Loc} {cs:List Value} (ag:bk w t.1 none (rt id) p τ' loc cs):cs.length=τ'.size/\∀b o,loc=some (b,o)->es w b o cs:=ag.at (ar.tree id t af).1.len (fun _ _ h=>by cases h)
theorem sf {M:du->Nat->Prop}:∀{p:List bw} {τ:aq} {l:Loc} {cs:List Value} {x:τ.den} {f:List Nat} {t:aq} {l':Loc} {b3:List Value},bi M w τ cs x f->bk w τ l cs p (.optr t) l' b3->∃b o ds,b3=[.pointer (some ⟨b,o,none⟩)]/\ds.length=t.size/\es w b o ds
 |[],τ,_,_,_,_,_,_,_,hr,ag=>by obtain⟨rfl,rfl,rfl⟩:=bk.fH.1 ag;obtain⟨b,o,f,ds,J,_,ae,aI,_⟩:=hr;exact⟨b,o,ds,J,ae,aI⟩
 |s::p,τ,_,cs,x,f,_,_,_,hr,ag=>by
  cases τ<;>cases s<;>simp only[bk] at ag
  case osl.idx t i=>
   obtain⟨b,o,len,cap,ds,rfl,R,ae,aI,aX⟩:=ag;obtain⟨ad,fy,e,hr⟩:=hr;simp only[hh,Value.slice.injEq,and_true] at e;obtain⟨rfl,rfl,rfl⟩:=e;rcases hr with⟨aU,_⟩|⟨cP,bL,dI,aU,_,aK,aL,a8,bH⟩
   ·cases aU
   cases aU;obtain⟨iu,cJ,cz,cX⟩:=bH i x[i] (dI[i]'(by omega)) (by simp) (by simp)
   obtain rfl:=aI.eq cz (by omega);exact sf (p:=p) cX aX
  case optr.deref t=>
   obtain⟨b,o,ds,rfl,ae,aI,aX⟩:=ag;obtain⟨cP,bL,f,iu,e,_,Wm,FE,_,bI⟩:=hr;simp only[hh,Value.pointer.injEq,cI,Addr.mk.injEq,and_true] at e;obtain⟨rfl,rfl⟩:=e;obtain rfl:=aI.eq FE (by omega);exact sf (p:=p) bI aX
  case st.unst t=>exact sf (p:=p) (τ:=t) hr ag
  case pr.fst t1 t2=>obtain⟨f1,cC,_,J,_⟩:=hr;exact sf (p:=p) (τ:=t1) J ag
  case pr.snd t1 t2=>obtain⟨f1,cC,_,_,R⟩:=hr;exact sf (p:=p) (τ:=t2) R ag
def fU (tt:List (TypeId×aq)) (T:TypeId):Option aq:=match az tt T with|some (.bJ _ t)=>some t|_=>none
def m0 (tt:List (TypeId×aq)) (T:TypeId):Option aq:=match az tt T with|some (.st t)=>some t|_=>none
theorem fU.ok {T:TypeId} {t:aq} (h:fU E.tt T=some t):∃i S,E.P.info? T=some i/\E.P.underlying T=some (.slice S)/\ei E.P t S:=by
 unfold fU at h;split at h
 ·rename_i m u ah;cases h;obtain⟨i,S,J,_,_,_,aX,bI⟩:=E.ok T _ ah;exact⟨i,S,J,aX,bI⟩
 ·cases h
theorem m0.ok {T:TypeId} {t:aq} (h:m0 E.tt T=some t):∃fs zs,E.P.underlying T=some (.struct fs)/\ji E.P t fs.toList 0 zs:=by
 unfold m0 at h;split at h
 ·rename_i u ah;cases h;obtain⟨_,i,fs,zs,J,_,_,_,aX,bI,_⟩:=E.ok T _ ah;exact⟨fs,zs.toList,aX,bI⟩
 ·cases h
def At (tt:List (TypeId×aq)) (h:List (Nat×a1)) (T:TypeId) (x:aw):hY:=
 match fU tt T with
 |none=>.bad
 |some _=>match x with
  |.val (.bJ _ _) xs=>.d2 (.val (.int .i64) (xs.length:Int)) []
  |.c5 (.slice none 0 0)=>.d2 (.val (.int .i64) (0:Int)) []
  |.ref id p=>match az h id with
   |some ⟨τ,x⟩=>match el τ p with
    |some (.osl t)=>.part (List t.den) (fun xs=>dr τ x p (.osl t) xs) (fun xs=>(.val (.int .i64) (xs.length:Int),[]))
    |_=>.bad
   |none=>.bad
  |.view _ _ lo hi=>.d2 (.val (.int .i64) ((hi-lo:Nat):Int)) []
  |.app id p τ aS _=>match az h id with
   |some ⟨Tu,x⟩=>.part (List τ.den) (fun xs=>dr Tu x p (.osl τ) xs) (fun xs=>(.val (.int .i64) ((xs.length+aS.length:Nat):Int),[]))
   |none=>.bad
  |_=>.bad
theorem C4 {T:TypeId} {t:aq} (bd:fU E.tt T=some t) {x:Operand} (aH:o.op=.call {callee:=.builtin .len,args:=#[x],argTypes:=#[T]}) {ad:Option Addr} {n c:Nat} (ab:a.eval x=.slice ad n c):(execOp a.eval o).run E.P w=.ok (.value (.int .i64 n)) w:=by obtain⟨i,S,_,aX,_⟩:=fU.ok bd;simp[execOp,aH,resolve,invoke,builtin,ab,Builtin.len_,run_underlying aX,goInt]
theorem anE (ar:cc C st a.tmps w I rt fp) {T:TypeId} {x:Operand} (aH:o.op=.call {callee:=.builtin .len,args:=#[x],argTypes:=#[T]}) (h:(At E.tt st.h T (bj st.g x)).K Q):Yields E C st a w I rt fp o Q:=by
 have ab:=ar.bj x;unfold At at h;split at h
 ·exact h.elim
 rename_i t bd;generalize hv:a.eval x=v at ab;split at h
 ·rename_i m u xs ex;rw[ex] at ab;cases ab with|val r=>
  obtain⟨_,ad,cap,rfl,_⟩:=r;exact .pure (C4 bd aH hv) (.int _ _) h
 ·rename_i ex;rw[ex] at ab;cases ab;exact .pure (C4 bd aH hv) (.int _ _) h
 ·rename_i id p ex;rw[ex] at ab;split at h
  ·rename_i τ y af;split at h
   ·rename_i u fB;obtain⟨xs,aD,h⟩:=h;cases ab with|ref bx ag=>
    rw[af] at bx;cases bx;obtain⟨rfl,f,hr,_⟩:=ar.l3 af aD ag;obtain⟨ad,cap,rfl,_⟩:=hr;exact .pure (C4 bd aH hv) (.int _ _) h
   ·exact h.elim
  ·exact h.elim
 ·rename_i id p lo hi ex;rw[ex] at ab;cases ab with
  |nJ=>exact .pure (C4 bd aH hv) (.int _ _) h
  |view bx ag=>exact .pure (C4 bd aH hv) (.int _ _) h
 ·rename_i id p τ aS own ex;rw[ex] at ab;split at h
  ·rename_i Tu y af;obtain⟨xs,aD,h⟩:=h;cases ab with|app bx fA ag j2 J j1 R=>
   rw[af] at bx;cases bx;obtain⟨ad,cap,e,_⟩:=R;simp only[hh,and_true] at e;have ai:=dr.uniq aD j2;subst ai;rw[e] at hv;have:=C4 (w:=w) bd aH hv;rw[qi] at this;exact .pure this (.int _ _) h
  ·exact h.elim
 ·exact h.elim
theorem bk.XS {t:aq} {l:Loc} {b o len cap k:Nat} {ds:List Value} (J:k<len) (R:ds.length=t.size) (ae:es w b (o+k*t.size) ds):bk w (.osl t) l [.slice (some ⟨b,o,none⟩) len cap] [.idx k] t (some (b,o+k*t.size)) ds:=⟨b,o,len,cap,ds,rfl,J,R,ae,bk.here⟩
theorem bk.Ou {t:aq} {l:Loc} {b o:Nat} {ds:List Value} (R:ds.length=t.size) (ae:es w b o ds):bk w (.optr t) l [.pointer (some ⟨b,o,none⟩)] [.deref] t (some (b,o)) ds:=⟨b,o,ds,rfl,R,ae,bk.here⟩
def Al (
 tt:List (TypeId×aq)) (h:List (Nat×a1)) (T:TypeId) (x i:aw):hY:=
 match fU tt T with
 |none=>.bad
 |some u=>match i with
  |.val (.int _) i=>match x with
   |.val (.bJ m t) xs=>bif bF u t then .part t.den (fun y=>bb xs i=some y) (fun y=>(.val (.ptr m t) (some y),[])) else .bad
   |.ref id p=>match az h id with
    |some ⟨τ,x⟩=>match el τ p with
     |some (.osl t)=>bif bF u t then .part (List t.den×Nat) (fun q=>dr τ x p (.osl t) q.1/\i=(q.2:Int)/\q.2<q.1.length) (fun q=>(.addr id (p++[.idx q.2]),[])) else .bad
     |_=>.bad
    |none=>.bad
   |.view id p lo hi=>match az h id with
    |some ⟨τ,x⟩=>match el τ p with
     |some (.osl t)=>bif bF u t then .part (List t.den×Nat) (fun q=>dr τ x p (.osl t) q.1/\i=(q.2:Int)/\q.2<hi-lo) (fun q=>(.addr id (p++[.idx (lo+q.2)]),[])) else .bad
     |_=>.bad
    |none=>.bad
   |_=>.bad
  |_=>.bad
theorem Qp {T:TypeId} {u t:aq} (bd:fU E.tt T=some u) (ah:bF u t=true) {x i:Operand} (aH:o.op=.indexAddr T x i) {b off len cap k:Nat} {vk:IntKind} (ab:a.eval x=.slice (some ⟨b,off,none⟩) len cap) (hi:a.eval i=.int vk k) (ac:k<len):(execOp a.eval o).run E.P w=.ok (.value (.pointer (some ⟨b,off+k*t.size,none⟩))) w:=by obtain⟨j,S,_,aX,bI⟩:=fU.ok bd;have hs:=(bI.lay ah).sizeOf w;have:(0:Int)<=(k:Int)/\(k:Int)<(len:Int):=⟨by omega,by omega⟩;simp[execOp,aH,ab,hi,Instr.indexAt,asIntOf,run_underlying aX,this,hs,Addr.add_lit];intro aU;omega
theorem amQ (ar:cc C st a.tmps w I rt fp) {T:TypeId} {x i:Operand} (aH:o.op=.indexAddr T x i) (h:(Al E.tt st.h T (bj st.g x) (bj st.g i)).K Q):Yields E C st a w I rt fp o Q:=by
 have ab:=ar.bj x;have hi:=ar.bj i;unfold Al at h;split at h
 ·exact h.elim
 rename_i u bd;generalize hv:a.eval x=v at ab;generalize Gb:a.eval i=au3 at hi;split at h
 case h_2=>exact h.elim
 rename_i vk n hm;rw[hm] at hi;cases hi with|val r=>
 obtain⟨_,rfl⟩:=r;split at h
 ·rename_i m t xs ex;cases ah:bF u t with
  |false=>rw[ah] at h;exact h.elim
  |true=>
   rw[ah] at h;obtain⟨y,aB,h⟩:=h;rw[ex] at ab;cases ab with|val r=>
   obtain⟨_,ad,cap,rfl,aK,aL,a8⟩:=r;obtain⟨aC,aV,b4⟩:=Wf aB;rcases a8 with rfl|⟨b,off,rfl,bC,bH⟩
   ·simp at aV
   obtain⟨ds,cJ,cz,cX⟩:=bH _ _ b4;have Qi:a.eval i=.int vk (n.toNat:Nat):=(by rw[Gb];show Value.int vk n=_;rw[<-aC]);exact .pure (Qp bd ah aH hv Qi aV) (.val (τ:=.ptr m t) (x:=some y) (cs:=[.pointer (some ⟨b,off+n.toNat*t.size,none⟩)]) ⟨rfl,b,_,ds,rfl,bC,cJ,cz,cX⟩) h
 ·rename_i id p ex;split at h
  case h_2=>exact h.elim
  rename_i τ y af;split at h
  case h_2=>exact h.elim
  rename_i t fB;cases ah:bF u t with
  |false=>rw[ah] at h;exact h.elim
  |true=>
   rw[ah] at h;obtain⟨⟨xs,k⟩,⟨aD,rfl,ac⟩,h⟩:=h;simp only at aD ac h;rw[ex] at ab;cases ab with|ref bx ag=>
   rw[af] at bx;cases bx;obtain⟨rfl,f,hr,_⟩:=ar.l3 af aD ag;obtain⟨ad,cap,rfl,hr⟩:=hr;rcases hr with⟨_,rfl,_⟩|⟨b,off,dI,rfl,_,aK,aL,a8,bH⟩
   ·simp at ac
   obtain⟨ds,cJ,cz,cX⟩:=bH k xs[k] (dI[k]'(by omega)) (by simp) (by simp)
   exact .pure (Qp bd ah aH hv Gb ac) (.addr af (ag.append (bk.XS ac cJ cz))) h
 ·rename_i id p lo dP ex;split at h
  case h_2=>exact h.elim
  rename_i τ y af;split at h
  case h_2=>exact h.elim
  rename_i t fB;cases ah:bF u t with
  |false=>rw[ah] at h;exact h.elim
  |true=>
   rw[ah] at h;obtain⟨⟨xs,k⟩,⟨aD,rfl,ac⟩,h⟩:=h;simp only at aD ac h;rw[ex] at ab;cases ab with|nJ=>(exact absurd ac (by omega))|view bx ag da l2 md=>
   rename_i b off len cap;rw[af] at bx;cases bx;obtain⟨e,f,hr,_⟩:=ar.l3 af aD ag;cases e;obtain⟨ad,fy,ax,hr⟩:=hr;simp only[hh,Value.slice.injEq,and_true] at ax;obtain⟨rfl,rfl,rfl⟩:=ax;rcases hr with⟨aU,_⟩|⟨cP,Rt,dI,aU,_,aK,aL,a8,bH⟩
   ·cases aU
   cases aU;have th:lo+k<xs.length:=(by omega);obtain⟨ds,cJ,cz,cX⟩:=bH (lo+k) xs[lo+k] (dI[lo+k]'(by omega)) (by simp) (by simp)
   have:=Qp (w:=w) bd ah aH hv Gb ac;rw[if_neg (by omega),show off+lo*t.size+k*t.size=off+(lo+k)*t.size by rw[iJ];omega] at this;exact .pure this (.addr af (ag.append (bk.XS th cJ cz))) h
 ·exact h.elim
theorem bi.pure {M:du->Nat->Prop} {w:World}:∀{τ:aq} {cs:List Value} {x:τ.den} {f:List Nat},τ.pure=true->bi M w τ cs x f->f=[]
 |.int _,_,_,_,_,h=>h.1
 |.bool,_,_,_,_,h=>h.1
 |.str,_,_,_,_,h=>h.1
 |.bJ _ _,_,_,_,_,h=>h.1
 |.ptr _ _,_,_,_,_,h=>h.1
 |.nil,_,_,_,_,h=>h.1
 |.st t,_,_,_,ay,h=>bi.pure (τ:=t) ay h
 |.pr a b,_,_,_,ay,h=>by simp only[aq.pure,bM] at ay;obtain⟨f1,cC,rfl,J,R⟩:=h;rw[bi.pure (τ:=a) ay.1 J,bi.pure (τ:=b) ay.2 R];rfl
 |.osl _,_,_,_,ay,_=>by cases ay
 |.optr _,_,_,_,ay,_=>by cases ay
 |.ee _ _,_,x,_,_,h=>by
  cases x with
  |none=>exact h.1
  |some q=>obtain⟨b,bG,L,_,R,_⟩:=h;exact R
 |.dw,_,_,_,ay,_=>by cases ay
def AT (τ:aq) (x:τ.den) (id:Nat) (p:List bw) (t:aq):hY:=
 bif t.pure then .part t.den (fun y=>dr τ x p t y) (fun y=>(.val t y,[])) else .d2 (.ref id p) []
def Au (tt:List (TypeId×aq)) (h:List (Nat×a1)) (T:TypeId) (x:aw):hY:=
 match az tt T with
 |none=>.bad
 |some u=>match x with
  |.val (.ptr _ t) (some y)=>bif bF u t then .d2 (.val t y) [] else .bad
  |.addr id p=>match az h id with
   |some ⟨τ,x⟩=>match el τ p with
    |some t=>bif bF u t then AT τ x id p t else .bad
    |none=>.bad
   |none=>.bad
  |.ref id p=>match az h id with
   |some ⟨τ,x⟩=>match el τ p with
    |some (.optr t)=>bif bF u t then AT τ x id (p++[.deref]) t else .bad
    |_=>.bad
   |none=>.bad
  |_=>.bad
theorem QS {T:TypeId} {u t:aq} (bd:az E.tt T=some u) (ah:bF u t=true) {x:Operand} (aH:o.op=.load T x) {b off:Nat} {cs:List Value} (ab:a.eval x=.pointer (some ⟨b,off,none⟩)) (aG:es w b off cs) (hc:cs.length=t.size):(execOp a.eval o).run E.P w=.ok (.value (cH t cs)) w:=by have:=aa9 ((E.ok T u bd).lay ah) aG hc;simp[execOp,aH,ab,Instr.loadAt,Instr.sureAddr,this]
theorem Sn (ar:cc C st a.tmps w I rt fp) {id:Nat} {τ:aq} {x:τ.den} (af:az st.h id=some ⟨τ,x⟩) {p:List bw} {t:aq} {loc:Loc} {cs:List Value} (ag:bk w τ none (rt id) p t loc cs) (hr:(execOp a.eval o).run E.P w=.ok (.value (cH t cs)) w) (h:(AT τ x id p t).K Q):Yields E C st a w I rt fp o Q:=by
 unfold AT at h;cases ay:t.pure with
 |true=>
  rw[ay] at h;obtain⟨y,aD,h⟩:=h;obtain⟨_,f,n9,_⟩:=ar.l3 af aD ag;have:=n9.pure ay;subst this;exact .pure hr (.val n9) h
 |false=>
  rw[ay] at h;exact .pure hr (.ref af ag) h
theorem anL (ar:cc C st a.tmps w I rt fp) {T:TypeId} {x:Operand} (aH:o.op=.load T x) (h:(Au E.tt st.h T (bj st.g x)).K Q):Yields E C st a w I rt fp o Q:=by
 have ab:=ar.bj x;unfold Au at h;split at h
 ·exact h.elim
 rename_i u bd;generalize hv:a.eval x=v at ab;split at h
 ·rename_i m t y ex;cases ah:bF u t with
  |false=>rw[ah] at h;exact h.elim
  |true=>
   rw[ah] at h;rw[ex] at ab;cases ab with|val r=>
   obtain⟨_,b,off,ds,rfl,aK,aL,a8,bH⟩:=r;exact .pure (QS bd ah aH hv a8 aL) (.val bH) h
 ·rename_i id p ex;split at h
  case h_2=>exact h.elim
  rename_i τ y af;split at h
  case h_2=>exact h.elim
  rename_i t fB;cases ah:bF u t with
  |false=>rw[ah] at h;exact h.elim
  |true=>
   rw[ah] at h;rw[ex] at ab;cases ab with|addr bx ag=>
   rw[af] at bx;cases bx;have:=ag.ty;rw[fB] at this;cases this;obtain⟨aK,aL⟩:=ar.aaW af ag;exact Sn ar af ag (QS bd ah aH hv (aL _ _ rfl) aK) h
 ·rename_i id p ex;split at h
  case h_2=>exact h.elim
  rename_i τ y af;split at h
  case h_2=>exact h.elim
  rename_i t fB;cases ah:bF u t with
  |false=>rw[ah] at h;exact h.elim
  |true=>
   rw[ah] at h;rw[ex] at ab;cases ab with|ref bx ag=>
   rename_i τ' loc cs;rw[af] at bx;cases bx;have:=ag.ty;rw[fB] at this;cases this;obtain⟨b,off,ds,rfl,cJ,cz⟩:=sf (ar.tree id _ af).1 ag;exact Sn ar af (ag.append (bk.Ou cJ cz)) (QS bd ah aH hv cz cJ) h
 ·exact h.elim
def zN (tt:List (TypeId×aq)) (h:List (Nat×a1)) (T:TypeId) (x:aw) (n:Nat):hY:=
 match m0 tt T with
 |none=>.bad
 |some u=>match x with
  |.val (.ptr m (.st t)) (some y)=>bif bF u t then match uX t y n with
    |some ⟨tf,DQ⟩=>.d2 (.val (.ptr m tf) (some DQ)) []
    |none=>.bad
   else .bad
  |.ref id p=>match az h id with
   |some ⟨τ,_⟩=>match el τ p with
    |some (.optr (.st t))=>bif bF u t then match ez t n with
      |some (s,_)=>.d2 (.addr id (p++(.deref::.unst::s))) []
      |none=>.bad
     else .bad
    |_=>.bad
   |none=>.bad
  |.addr id p=>match az h id with
   |some ⟨τ,_⟩=>match el τ p with
    |some (.st t)=>bif bF u t then match ez t n with
      |some (s,_)=>.d2 (.addr id (p++(.unst::s))) []
      |none=>.bad
     else .bad
    |_=>.bad
   |none=>.bad
  |_=>.bad
theorem OV {T:TypeId} {u t:aq} (bd:m0 E.tt T=some u) (ah:bF u t=true) {n:Nat} {s:List bw} {tf:aq} (hs:ez t n=some (s,tf)) {x:Operand} (aH:o.op=.fieldAddr T x n) {b off:Nat} (ab:a.eval x=.pointer (some ⟨b,off,none⟩)):(execOp a.eval o).run E.P w=.ok (.value (.pointer (some ⟨b,off+dU t n,none⟩))) w:=by obtain⟨fs,zs,aX,bI⟩:=m0.ok bd;obtain⟨f,aF,jx,lw⟩:=OW (ji.lay ah bI) hs;have aZ:tf.size≠0:=(by have:=lw.pos;omega);have PF:fs[n]?=some f:=(by simpa using aF);simp[execOp,aH,ab,Instr.fieldAt,run_underlying aX,PF,Instr.sureAddr,fieldPlace,lw.sizeOf,aZ,Addr.add_lit,jx]
theorem ajF (ar:cc C st a.tmps w I rt fp) {T:TypeId} {x:Operand} {n:Nat} (aH:o.op=.fieldAddr T x n) (h:(zN E.tt st.h T (bj st.g x) n).K Q):Yields E C st a w I rt fp o Q:=by
 have ab:=ar.bj x;unfold zN at h;split at h
 ·exact h.elim
 rename_i u bd;generalize hv:a.eval x=v at ab;split at h
 ·rename_i m t y ex;cases ah:bF u t with
  |false=>rw[ah] at h;exact h.elim
  |true=>
   rw[ah] at h;simp only[cond_true] at h;split at h
   case h_2=>exact h.elim
   rename_i tf DQ aF;rw[ex] at ab;cases ab with|val r=>
   obtain⟨_,b,off,ds,rfl,aK,aL,a8,bH⟩:=r;obtain⟨s,hs⟩:=OZ aF;obtain⟨bX,bn⟩:=OY (τ:=t) bH aF;have da:=bH.len;simp only[aq.size] at da bX bn;exact .pure (OV bd ah hs aH hv) (.val (τ:=.ptr m tf) (x:=some DQ) (cs:=[.pointer (some ⟨b,off+dU t n,none⟩)]) ⟨rfl,b,_,_,rfl,aK,by simp;omega,a8.drop.take,bX⟩) h
 ·rename_i id p ex;split at h
  case h_2=>exact h.elim
  rename_i τ y af;split at h
  case h_2=>exact h.elim
  rename_i t fB;cases ah:bF u t with
  |false=>rw[ah] at h;exact h.elim
  |true=>
   rw[ah] at h;simp only[cond_true] at h;split at h
   case h_2=>exact h.elim
   rename_i s tf hs;rw[ex] at ab;cases ab with|ref bx ag=>
   rw[af] at bx;cases bx;have:=ag.ty;rw[fB] at this;cases this;obtain⟨b,off,ds,rfl,cJ,cz⟩:=sf (ar.tree id _ af).1 ag;rename_i loc;have q:bk w (.optr (.st t)) loc [.pointer (some ⟨b,off,none⟩)] (.deref::.unst::s) tf (some (b,off+dU t n)) ((ds.drop (dU t n)).take tf.size):=⟨b,off,ds,rfl,cJ,cz,bk.KF (l:=some (b,off)) hs⟩;exact .pure (OV bd ah hs aH hv) (.addr af (ag.append q)) h
 ·rename_i id p ex;split at h
  case h_2=>exact h.elim
  rename_i τ y af;split at h
  case h_2=>exact h.elim
  rename_i t fB;cases ah:bF u t with
  |false=>rw[ah] at h;exact h.elim
  |true=>
   rw[ah] at h;simp only[cond_true] at h;split at h
   case h_2=>exact h.elim
   rename_i s tf hs;rw[ex] at ab;cases ab with|addr bx ag=>
   rw[af] at bx;cases bx;have:=ag.ty;rw[fB] at this;cases this;rename_i b off cs;have q:bk w (.st t) (some (b,off)) cs (.unst::s) tf (some (b,off+dU t n)) ((cs.drop (dU t n)).take tf.size):=bk.KF (l:=some (b,off)) hs;exact .pure (OV bd ah hs aH hv) (.addr af (ag.append q)) h
 ·exact h.elim
def Cn (
 tt:List (TypeId×aq)) (h:List (Nat×a1)) (T:TypeId) (x:aw) (n:Nat):hY:=
 match m0 tt T with
 |none=>.bad
 |some u=>match x with
  |.val (.st t) y=>bif bF u t then match uX t y n with
    |some ⟨tf,DQ⟩=>.d2 (.val tf DQ) []
    |none=>.bad
   else .bad
  |.ref id p=>match az h id with
   |some ⟨τ,x⟩=>match el τ p with
    |some (.st t)=>bif bF u t then match ez t n with
      |some (s,tf)=>AT τ x id (p++(.unst::s)) tf
      |none=>.bad
     else .bad
    |_=>.bad
   |none=>.bad
  |_=>.bad
theorem V2 {T:TypeId} {u t:aq} (bd:m0 E.tt T=some u) (ah:bF u t=true) {n:Nat} {s:List bw} {tf:aq} (hs:ez t n=some (s,tf)) {x:Operand} (aH:o.op=.field T x n) {cs:List Value} (ab:a.eval x=cH (.st t) cs) (hc:dU t n+tf.size<=cs.length):(execOp a.eval o).run E.P w=.ok (.value (cH tf ((cs.drop (dU t n)).take tf.size))) w:=by
 obtain⟨fs,zs,aX,bI⟩:=m0.ok bd;obtain⟨f,aF,jx,lw⟩:=OW (ji.lay ah bI) hs;have aZ:=lw.pos;have PF:fs[n]?=some f:=(by simpa using aF);simp only[ks] at jx;have vg:a.eval x=.agg cs.toArray:=ab;have key:(part f.type cs.toArray f.offset).run E.P w=.ok (cH tf ((cs.drop (dU t n)).take tf.size)) w:=by
  simp only[part,Sem.run_bind,lw.isAgg,Result.andThen_ok,jx];cases ai:tz tf with
  |true=>
   rw[MB ai];simp only[if_true,Sem.run_bind,lw.sizeOf,Result.andThen_ok,Sem.run_pure];congr 2;apply Array.ext';rw[Array.toList_extract,List.extract_eq_take_drop,sO]
  |false=>
   have J:=RP lw ai;rw[MA ai,J];have cg:dU t n<cs.length:=(by omega);have:(cs.drop (dU t n)).take 1=[cs[dU t n]]:=(by rw[List.drop_eq_getElem_cons cg];rfl);rw[this];simp[cg]
 simp[execOp,aH,vg,Instr.field,run_underlying aX,PF,asAgg,key]
theorem ajH (ar:cc C st a.tmps w I rt fp) {T:TypeId} {x:Operand} {n:Nat} (aH:o.op=.field T x n) (h:(Cn E.tt st.h T (bj st.g x) n).K Q):Yields E C st a w I rt fp o Q:=by
 have ab:=ar.bj x;unfold Cn at h;split at h
 ·exact h.elim
 rename_i u bd;generalize hv:a.eval x=v at ab;split at h
 ·rename_i t y ex;cases ah:bF u t with
  |false=>rw[ah] at h;exact h.elim
  |true=>
   rw[ah] at h;simp only[cond_true] at h;split at h
   case h_2=>exact h.elim
   rename_i tf DQ aF;rw[ex] at ab;cases ab with|val r=>
   obtain⟨s,hs⟩:=OZ aF;obtain⟨bX,bn⟩:=OY (τ:=t) r aF;have da:=r.len;simp only[aq.size] at da;exact .pure (V2 bd ah hs aH hv (by simp only at*;omega)) (.val bX) h
 ·rename_i id p ex;split at h
  case h_2=>exact h.elim
  rename_i τ y af;split at h
  case h_2=>exact h.elim
  rename_i t fB;cases ah:bF u t with
  |false=>rw[ah] at h;exact h.elim
  |true=>
   rw[ah] at h;simp only[cond_true] at h;split at h
   case h_2=>exact h.elim
   rename_i s tf hs;rw[ex] at ab;cases ab with|ref bx ag=>
   rename_i τ' loc cs;rw[af] at bx;cases bx;have:=ag.ty;rw[fB] at this;cases this;obtain⟨aK,aL⟩:=ar.aaW af ag;have q:bk w (.st t) loc cs (.unst::s) tf (loc.map fun q=>(q.1,q.2+dU t n)) ((cs.drop (dU t n)).take tf.size):=bk.KF hs;exact Sn ar af (ag.append q) (V2 bd ah hs aH hv (by rw[aK];exact Co hs)) h
 ·exact h.elim
def AG (h:List (Nat×a1)) (x:aw):hY:=
 match x with
 |.val (.ptr m t) x=>.part t.den (fun y=>x=some y) (fun y=>(.val (.ptr m t) (some y),[]))
 |.ref id p=>match az h id with
  |some ⟨τ,_⟩=>match el τ p with
   |some (.optr _)=>.d2 (.ref id p) []
   |_=>.bad
  |none=>.bad
 |.addr id p=>.d2 (.addr id p) []
 |.dQ f l=>.d2 (.dQ f l) []
 |_=>.bad
theorem apj (ar:cc C st a.tmps w I rt fp) {x:Operand} (aH:o.op=.nilCheck x) (h:(AG st.h (bj st.g x)).K Q):Yields E C st a w I rt fp o Q:=by
 have ab:=ar.bj x;unfold AG at h;generalize hv:a.eval x=v at ab;split at h
 ·rename_i m t y ex;obtain⟨y,rfl,h⟩:=h;rw[ex] at ab;cases ab with|val r=>
  obtain⟨_,b,off,ds,rfl,aK,aL,a8,bH⟩:=r;exact .pure (v:=.pointer (some ⟨b,off,none⟩)) (by simp[execOp,aH,hv,cH]) (.val (τ:=.ptr m t) (x:=some y) (cs:=[.pointer (some ⟨b,off,none⟩)]) ⟨rfl,b,off,ds,rfl,aK,aL,a8,bH⟩) h
 ·rename_i id p ex;split at h
  case h_2=>exact h.elim
  rename_i τ y af;split at h
  case h_2=>exact h.elim
  rename_i t fB;rw[ex] at ab;cases ab with|ref bx ag=>
  rw[af] at bx;cases bx;have:=ag.ty;rw[fB] at this;cases this;obtain⟨b,off,ds,rfl,cJ,cz⟩:=sf (ar.tree id _ af).1 ag;exact .pure (v:=.pointer (some ⟨b,off,none⟩)) (by simp[execOp,aH,hv,cH]) (.ref (τ':=.optr t) af ag) h
 ·rename_i id p ex;rw[ex] at ab;cases ab with|addr af ag=>
  exact .pure (by simp[execOp,aH,hv]) (.addr af ag) h
 ·rename_i f l ex;rw[ex] at ab;cases ab with|dQ ah ax=>
  exact .pure (by simp[execOp,aH,hv]) (.dQ ah ax) h
 ·exact h.elim
def wT (x:Option aw) (d k:Nat):Prop:=
 match x with
 |none=>k=d
 |some (.val (.int _) i)=>i=(k:Int)
 |some _=>False
def A6 (tt:List (TypeId×aq)) (h:List (Nat×a1)) (T:TypeId) (x:aw) (lo hi:Option aw):hY:=
 match fU tt T with
 |none=>.bad
 |some u=>match x with
  |.val (.bJ m t) xs=>bif bF u t then
   .part axM (fun q=>wT lo 0 q.1/\wT hi xs.length q.2/\q.1<=q.2/\q.2<=xs.length) (fun q=>(.val (.bJ m t) ((xs.take q.2).drop q.1),[])) else .bad
  |.ref id p=>match az h id with
   |some ⟨τ,x⟩=>match el τ p with
    |some (.osl t)=>bif bF u t then
     .part (List t.den×Nat×Nat) (fun q=>dr τ x p (.osl t) q.1/\wT lo 0 q.2.1/\wT hi q.1.length q.2.2/\q.2.1<=q.2.2/\q.2.2<=q.1.length) (fun q=>(.view id p q.2.1 q.2.2,[])) else .bad
    |_=>.bad
   |none=>.bad
  |_=>.bad
def NR (a:Act) (x:Option Operand) (d k:Nat):Prop:=
 match x with
 |none=>k=d
 |some y=>∃q,a.eval y=.int q k
theorem SO {T:TypeId} {u t:aq} (bd:fU E.tt T=some u) (ah:bF u t=true) {x:Operand} {lo hi:Option Operand} (aH:o.op=.slice T x lo hi none) {ad:Option Addr} {len cap l h:Nat} (ab:a.eval x=.slice ad len cap) (fR:NR a lo 0 l) (j3:NR a hi len h) (J:l<=h) (R:h<=cap):(execOp a.eval o).run E.P w=.ok (.value (.slice (if cap=l then ad else ad.map (·.add (l*t.size))) (h-l) (cap-l))) w:=by
 obtain⟨j,S,_,aX,bI⟩:=fU.ok bd;have hs:=(bI.lay ah).sizeOf w;have aC:(0:Int)<=(h:Int)/\(h:Int)<=(cap:Int):=⟨by omega,by omega⟩;have aV:(0:Int)<=(l:Int)/\(l:Int)<=(h:Int):=⟨by omega,by omega⟩;have b4:(Instr.sliceBounds true len cap (lo.map a.eval) (hi.map a.eval) none).run E.P w=.ok (l,h,cap) w:=by
  cases lo with
  |none=>
   obtain rfl:l=0:=fR;cases hi with
   |none=>obtain rfl:h=len:=j3;simp[Instr.sliceBounds]
   |some y=>obtain⟨k,ac⟩:=j3;simp[Instr.sliceBounds,Instr.sliceBound,ac,asIntOf,aC];intro aU;omega
  |some z=>
   obtain⟨cN,ky⟩:=fR;cases hi with
   |none=>obtain rfl:h=len:=j3;simp[Instr.sliceBounds,Instr.sliceBound,ky,asIntOf,aV];intro aU;omega
   |some y=>
    obtain⟨k,ac⟩:=j3;have om:¬cap<h:=(by omega);have lF:¬h<l:=(by omega);simp[Instr.sliceBounds,Instr.sliceBound,ac,ky,asIntOf,J,R]
 simp[execOp,aH,ab,Instr.sliceAt,Instr.slice,run_underlying aX,b4,hs]
theorem BT (ar:cc C st a.tmps w I rt fp) {x:Option Operand} {d k:Nat} (h:wT (x.map (bj st.g)) d k):NR a x d k:=by
 cases x with
 |none=>exact h
 |some y=>
  have:=ar.bj y;simp only[g6,wT] at h;split at h
  ·rename_i e;cases e
  ·rename_i q i e;simp only[cI] at e;rw[e] at this;subst h;generalize hv:a.eval y=v at this;cases this with|val r=>obtain⟨_,rfl⟩:=r;exact⟨q,hv⟩
  ·exact h.elim
theorem atS (ar:cc C st a.tmps w I rt fp) {T:TypeId} {x:Operand} {lo hi:Option Operand} (aH:o.op=.slice T x lo hi none) (h:(A6 E.tt st.h T (bj st.g x) (lo.map (bj st.g)) (hi.map (bj st.g))).K Q):Yields E C st a w I rt fp o Q:=by
 have ab:=ar.bj x;unfold A6 at h;split at h
 ·exact h.elim
 rename_i u bd;generalize hv:a.eval x=v at ab;split at h
 ·rename_i m t xs ex;cases ah:bF u t with
  |false=>rw[ah] at h;exact h.elim
  |true=>
   rw[ah] at h;obtain⟨⟨l,k⟩,⟨dn,dM,hL,jI⟩,h⟩:=h;simp only at dn dM hL jI h;rw[ex] at ab;cases ab with|val r=>
   obtain⟨_,ad,cap,rfl,aK,aL,a8⟩:=r;have eA:=SO (w:=w) bd ah aH hv (BT ar dn) (BT ar dM) hL (by omega);have dR:((xs.take k).drop l).length=k-l:=(by simp;omega);refine .pure eA (.val (τ:=.bJ m t) (x:=(xs.take k).drop l) (cs:=[_]) ⟨rfl,_,cap-l,by rw[dR],by omega,?_,?_⟩) h
   ·intro aU;by_cases hc:cap=l
    ·omega
    ·rw[if_neg hc] at aU;cases ad with
     |none=>have:=aL rfl;omega
     |some _=>cases aU
   ·by_cases pE:k=l
    ·left;apply pb;omega
    ·right;rcases a8 with rfl|⟨b,off,rfl,bC,bH⟩
     ·simp at jI;omega
     ·refine⟨b,off+l*t.size,by rw[if_neg (by omega)];simp[Addr.add_lit],bC,fun i y hi=>?_⟩;have dP:xs[l+i]?=some y:=by
       rw[ng,yL] at hi;split at hi
       ·exact hi
       ·cases hi
      obtain⟨ds,cJ,cz,cX⟩:=bH _ _ dP;refine⟨ds,cJ,?_,cX⟩;rwa[show off+l*t.size+i*t.size=off+(l+i)*t.size by rw[iJ];omega]
 ·rename_i id p ex;split at h
  case h_2=>exact h.elim
  rename_i τ y af;split at h
  case h_2=>exact h.elim
  rename_i t fB;cases ah:bF u t with
  |false=>rw[ah] at h;exact h.elim
  |true=>
   rw[ah] at h;obtain⟨⟨xs,l,k⟩,⟨aD,dn,dM,hL,jI⟩,h⟩:=h;simp only at aD dn dM hL jI h;rw[ex] at ab;cases ab with|ref bx ag=>
   rw[af] at bx;cases bx;obtain⟨rfl,f,hr,_⟩:=ar.l3 af aD ag;obtain⟨ad,cap,rfl,hr⟩:=hr;rcases hr with⟨rfl,rfl,rfl,_⟩|⟨b,off,dI,rfl,_,aK,aL,a8,bH⟩
   ·have u6:k=0:=(by simpa using jI);subst u6;have alx:l=0:=(by omega);subst alx;exact .pure (SO (w:=w) bd ah aH hv (BT ar dn) (BT ar dM) (bS _) (bS _)) (.nJ id p) h
   have eA:=SO (w:=w) bd ah aH hv (BT ar dn) (BT ar dM) hL (by omega);have:(if cap=l then some (⟨b,off,none⟩:Addr) else(some (⟨b,off,none⟩:Addr)).map (·.add (l*t.size)))=some ⟨b,if cap=l then off else off+l*t.size,none⟩:=(by split<;>simp[Addr.add_lit]);rw[this] at eA;exact .pure eA (.view af ag hL jI aL) h
 ·exact h.elim
end
end
section
def js:(τ:aq)->List Value->Option τ.den
 |.int k,cs=>match cs with
  |[.int cN n]=>if k=cN then some n else none
  |_=>none
 |.bool,cs=>match cs with
  |[.bool b]=>some b
  |_=>none
 |.str,cs=>match cs with
  |[.string s]=>some s
  |_=>none
 |.bJ _ _,cs=>match cs with
  |[.slice none 0 0]=>some []
  |_=>none
 |.osl _,cs=>match cs with
  |[.slice none 0 0]=>some []
  |_=>none
 |.ptr _ _,cs=>match cs with
  |[.pointer none]=>some none
  |_=>none
 |.st t,cs=>js t cs
 |.pr a b,cs=>match js a (cs.take a.size),js b (cs.drop a.size) with
  |some x,some y=>some (x,y)
  |_,_=>none
 |.nil,cs=>match cs with
  |[]=>some ()
  |_=>none
 |.optr _,_=>none
 |.dw,_=>none
 |.mp _,_=>none
 |.ee _ _,_=>none
theorem sZ {M:du->Nat->Prop} {w:World}:∀{τ:aq} {cs:List Value} {x:τ.den},js τ cs=some x->bi M w τ cs x []
 |.int k,cs,x,h=>by
  simp only[js] at h;split at h
  ·split at h
   ·rename_i ac;cases h;subst ac;exact⟨rfl,rfl⟩
   ·cases h
  ·cases h
 |.bool,cs,x,h=>by simp only[js] at h;split at h<;>cases h;exact⟨rfl,rfl⟩
 |.str,cs,x,h=>by simp only[js] at h;split at h<;>cases h;exact⟨rfl,rfl⟩
 |.bJ _ _,cs,x,h=>by simp only[js] at h;split at h<;>cases h;exact⟨rfl,none,0,rfl,bS _,fun _=>rfl,.inl rfl⟩
 |.osl _,cs,x,h=>by simp only[js] at h;split at h<;>cases h;exact⟨none,0,rfl,.inl ⟨rfl,rfl,rfl,rfl⟩⟩
 |.ptr _ _,cs,x,h=>by simp only[js] at h;split at h<;>cases h;exact⟨rfl,rfl⟩
 |.st t,cs,x,h=>sZ (τ:=t) (by simp only[js] at h;exact h)
 |.pr a b,cs,x,h=>by
  simp only[js] at h;split at h
  ·rename_i x y ab aB;cases h;exact⟨[],[],rfl,sZ (τ:=a) ab,sZ (τ:=b) aB⟩
  ·cases h
 |.nil,cs,x,h=>by simp only[js] at h;split at h<;>cases h;exact⟨rfl,rfl⟩
 |.optr _,cs,x,h=>by simp only[js] at h;cases h
 |.dw,cs,x,h=>by simp only[js] at h;cases h
 |.mp _,cs,x,h=>by simp only[js] at h;cases h
 |.ee _ _,cs,x,h=>by simp only[js] at h;cases h
theorem V3 (off:Nat):∀(l:List Value) (k:Nat) (cs:Array Value),let r:=(l.zipIdx k).foldl (fun cs (q:Value×Nat)=>cs.setIfInBounds (off+q.2) q.1) cs
 r.size=cs.size/\(∀j,j<off+k\/off+k+l.length<=j->r[j]?=cs[j]?)/\(off+k+l.length<=cs.size->∀j v,l[j]?=some v->r[off+k+j]?=some v)
 |[],k,cs=>⟨rfl,fun _ _=>rfl,fun _ j v h=>by simp at h⟩
 |x::l,k,cs=>by
  obtain⟨J,R,ae⟩:=V3 off l (k+1) (cs.setIfInBounds (off+k) x);simp only[List.zipIdx_cons,List.foldl_cons];refine⟨by rw[J];simp,fun j al=>?_,fun hs j v hv=>?_⟩
  ·simp only[kc] at al;rw[R j (by omega),Nj (by omega)]
  ·simp only[kc] at hs;cases j with
   |zero=>
    simp only[ld,cI] at hv;subst hv;rw[pg,R _ (by omega)];have:off+k<cs.size:=(by omega);simp[this]
   |succ j=>
    simp only[uq] at hv;have:=ae (by simp;omega) j v hv;rwa[show off+(k+1)+j=off+k+(j+1) by omega] at this
theorem Fy (place:Nat->Option axM):∀(parts:List (Nat×Value)) (cells:Array Value),(∀q∈parts,∃off s,place q.1=some (off,s)/\q.2.cells.size=s/\off+s<=cells.size)->(parts.Pairwise fun q r=>∀o s bL s',place q.1=some (o,s)->place r.1=some (bL,s')->o+s<=bL\/bL+s'<=o)->∃r,Instr.fill place cells parts=some r/\r.size=cells.size/\(∀j,(∀q∈parts,∀o s,place q.1=some (o,s)->j<o\/o+s<=j)->r[j]?=cells[j]?)/\(∀q∈parts,∀o s,place q.1=some (o,s)->∀j v,q.2.cells[j]?=some v->r[o+j]?=some v)
 |[],cells,_,_=>⟨cells,rfl,rfl,fun _ _=>rfl,fun q ai=>by cases ai⟩
 |(i,v)::parts,cells,J,R=>by
  obtain⟨off,s,g2,eF,vQ⟩:=J (i,v) (by simp);simp only at g2 eF;rw[ri] at R;have aZ:v.cells.zipIdx.foldl (fun cs (q:Value×Nat)=>cs.setIfInBounds (off+q.2) q.1) cells=(v.cells.toList.zipIdx 0).foldl (fun cs (q:Value×Nat)=>cs.setIfInBounds (off+q.2) q.1) cells:=(by rw[<-Array.foldl_toList,Array.toList_zipIdx]);obtain⟨f1,cC,hA⟩:=V3 off v.cells.toList 0 cells;rw[<-aZ] at f1 cC hA;simp only[Array.length_toList] at cC hA;generalize hc:v.cells.zipIdx.foldl (fun cs (q:Value×Nat)=>cs.setIfInBounds (off+q.2) q.1) cells=UW at f1 cC hA;obtain⟨r,bX,bn,a9,bD⟩:=Fy place parts UW (fun q ai=>by
   obtain⟨bL,s',bT,bz,cZ⟩:=J q (f6 _ ai);exact⟨bL,s',bT,bz,by rw[f1];exact cZ⟩) R.2
  refine⟨r,?_,by rw[bn,f1],fun j al=>?_,fun q ai bL s' ay j u aQ=>?_⟩
  ·have aa:(decide (v.cells.size≠s)||decide (off+v.cells.size>cells.size))=false:=(by simp;omega);simp only[Instr.fill,g2,aa];rw[show(v.cells.zipIdx.foldl (fun cs x=>match x with|(c,j)=>cs.setIfInBounds (off+j) c) cells)=UW from hc];simpa using bX
  ·rw[a9 j (fun q ai=>al q (f6 _ ai)),cC j (by have:=al (i,v) (by simp) off s g2;omega)]
  ·rcases dV.1 ai with rfl|ai
   ·simp only at ay aQ;rw[g2] at ay;cases ay;have kX:j<v.cells.size:=(qa.1 aQ).1;rw[a9 (off+j) (fun q ai bL s' P0=>by
     have:=R.1 q ai off s bL s' g2 P0;omega)]
    exact hA (by omega) j u (by simpa using aQ)
   ·exact bD q ai bL s' ay j u aQ
section
variable {E:eI} {C:dZ} {st:ba} {a:Act} {w:World} {I:Nat->Prop} {rt:Nat->List Value} {fp:Nat->List Nat} {o:Oper} {Q:aw->List (Nat×a1)->Prop}
theorem es.alloc {w:World} {cells:Array Value} {T:TypeId} {o:Nat} {cs:List Value} (h:∀j v,cs[j]?=some v->cells[o+j]?=some v):es (w.alloc (.cells cells T)) w.heap.size o cs:=fun j v al=>by rw[World.cell?_alloc_new];exact h j v al
theorem jR.alloc {w:World} {cells:Array Value} {T:TypeId} {lo hi:Nat} (h:hi<=cells.size):jR (w.alloc (.cells cells T)) w.heap.size lo hi:=fun j _ R=>by rw[World.cell?_alloc_new,World.frozen?_alloc_new];exact⟨by simp;omega,rfl⟩
theorem Yields.new {d:Nat} {t:a1} {v:Value} {cs:List Value} {f:List Nat} {cells:Array Value} {T:TypeId} (ag:az st.h d=none) (ar:cc C st a.tmps w I rt fp) (hr:(execOp a.eval o).run E.P w=.ok (.value v) (w.alloc (.cells cells T))) (hv:v=cH t.1 cs) (n9:bi (bK I C.B) (w.alloc (.cells cells T)) t.1 cs t.2 f) (aF:∀b∈f,b=w.heap.size) (eh:f.Nodup) (ai:Q (.ref d []) [(d,t)]):Yields E C st a w I rt fp o Q:=by
 refine⟨v,_,I,fun _=>cs,fun _=>f,.ref d [],[(d,t)],hr,.alloc w _,fun _ h=>h,fun _ h=>.inl h,.one ag n9 eh (fun b aa=>?_),?_,ai⟩
 ·rw[aF b aa];exact⟨bS _,by simp,fun h=>by have:=ar.ib _ (.inl h);omega⟩
 ·rw[hv];have ah:az ([(d,t)]++st.h) d=some t:=(by rw[Im,db,if_pos rfl]);refine .ref (t:=t) (τ':=t.1) (loc:=none) ah ?_;have:d9 [(d,t)] (fun _=>cs) rt d=cs:=(by simp[d9,db]);rw[this];exact bk.here
def AA (tt:List (TypeId×aq)) (an:List (Nat×aq)) (h:List (Nat×a1)) (d:Nat) (T:TypeId) (l c:aw):hY:=
 match fU tt T,az an d,az h d with
 |some u,some (.osl t),none=>match nL t,l,c with
  |some z,.val (.int _) l,.val (.int _) c=>bif bF u t&&Nat.ble t.size 2000 then
   .part axM (fun q=>l=(q.1:Int)/\c=(q.2:Int)/\q.1<=q.2/\q.2<=gv) (fun q=>(.ref d [],[(d,⟨.osl t,List.replicate q.1 z⟩)])) else .bad
  |_,_,_=>.bad
 |_,_,_=>.bad
theorem aoq (z:Array Value) (n i j:Nat) (v:Value) (_hz:0<z.size) (hv:z[j]?=some v) (hi:i<n):(madeCells z (n*z.size))[i*z.size+j]?=some v:=by have al:j<z.size:=(qa.1 hv).1;have J:(i+1)*z.size<=n*z.size:=jT _ hi;rw[iJ,kP] at J;have R:(i*z.size+j) %z.size=j:=(by rw[Nat.add_comm,Nat.add_mul_mod_self_right,Nat.mod_eq_of_lt al]);simp only[madeCells,Array.getElem?_map,Array.getElem?_range];rw[if_pos (by omega)];simp only[g6,R];rw[<-hv,getElem!_pos z j al,DV al]
theorem aot (ar:cc C st a.tmps w I rt fp) {an:List (Nat×aq)} {d:Nat} {T:TypeId} {l c:Operand} (aH:o.op=.makeSlice T l c) (h:(AA E.tt an st.h d T (bj st.g l) (bj st.g c)).K Q):Yields E C st a w I rt fp o Q:=by
 have ah:=ar.bj l;have hc:=ar.bj c;unfold AA at h;split at h
 case h_2=>exact h.elim
 rename_i u t bd nu aN;split at h
 case h_2=>exact h.elim
 rename_i z ani n am8 m aZ aiE OF;cases aa:(bF u t&&Nat.ble t.size 2000) with
 |false=>rw[aa] at h;exact h.elim
 |true=>
  rw[aa] at h;simp only[bM] at aa;obtain⟨⟨G2,iz⟩,⟨rfl,rfl,J,R⟩,h⟩:=h;simp only at J R h;have d8:=fw aa.2;rw[aiE] at ah;rw[OF] at hc;generalize qH:a.eval l=aw6 at ah;generalize amw:a.eval c=aw5 at hc;cases ah with|val bX=>cases hc with|val bn=>
  obtain⟨_,rfl⟩:=bX;obtain⟨_,rfl⟩:=bn;obtain⟨j,S,_,aX,bI⟩:=fU.ok bd;have iO:=bI.lay aa.1;obtain⟨i,il,aK,aL,a8,bH⟩:=Bp iO aZ;obtain⟨kB,_,dp,_⟩:=iO.info;have ep:=dp.info;rw[aK] at ep;cases ep;have Aj:il.cells.size=t.size:=(by have:=(bH (bK I C.B) w).len;simpa using this);have FL:(i.bytes:Int)*(iz:Int)<=281474976710656:=(by have:i.bytes*iz<=48000*gv:=oJ (by have:=dp.bytes;omega) R;have ae:((i.bytes*iz:Nat):Int)<=281474976710656:=(by unfold gv at this;omega);rwa[qe] at ae);have eA:=run_make (P:=E.P) w T S i il aX aK aL ani am8 (G2:Int) (iz:Int) (by omega) (by omega) FL (by unfold gv at R;omega);simp only[d4,dp.size] at eA;rw[<-Aj] at eA;refine .new (d:=d) (cells:=madeCells il.cells (iz*il.cells.size)) (T:=S) (cs:=[.slice (some ⟨w.heap.size,0,none⟩) G2 iz]) (f:=[w.heap.size]) aN ar ?_ rfl ?_ (by simp) (by simp) h
  ·simp[execOp,aH,qH,amw,cH,eA]
  ·refine⟨some ⟨w.heap.size,0,none⟩,iz,by simp,.inr ⟨w.heap.size,0,List.replicate G2 [],rfl,by simp,by simp,by simpa using J,jR.alloc (by rw[size_madeCells,Aj];omega),fun k x g ab aD=>?_⟩⟩;have ac:k<G2:=(by have:=(e9.1 ab).1;simpa using this);obtain rfl:z=x:=(by rw[pc,if_pos ac] at ab;exact ff ab);obtain rfl:[]=g:=(by rw[pc,if_pos ac] at aD;exact ff aD);refine⟨il.cells.toList,by simpa using Aj,es.alloc (fun j v al=>?_),bH _ _⟩;rw[ks,<-Aj];exact aoq _ _ _ _ _ (by rw[Aj];exact iO.pos) (by simpa using al) (by omega)
def BK (tt:List (TypeId×aq)) (an:List (Nat×aq)) (h:List (Nat×a1)) (d:Nat) (T:TypeId):hY:=
 match az tt T,az an d,az h d with
 |some u,some t,none=>match nL t with
  |some z=>bif bF u t then .d2 (.ref d []) [(d,⟨.optr t,z⟩)] else .bad
  |none=>.bad
 |_,_,_=>.bad
theorem Yields.box {d:Nat} {τ:aq} {x:τ.den} {cs:List Value} {T:TypeId} (ag:az st.h d=none) (ar:cc C st a.tmps w I rt fp) (_hT:ei E.P τ T) (hr:(execOp a.eval o).run E.P w=.ok (.value (.pointer (some ⟨w.heap.size,0,none⟩))) (w.alloc (.cells cs.toArray T))) (n9:∀w',(∀m b,bK I C.B m b->c3 w w' b)->bi (bK I C.B) w' τ cs x []) (ai:Q (.ref d []) [(d,⟨.optr τ,x⟩)]):Yields E C st a w I rt fp o Q:=by have bC:∀m b,bK I C.B m b->c3 w (w.alloc (.cells cs.toArray T)) b:=fun m b aa=>.of_heap ((hV.alloc w _).heap b (ar.ib b (pQ aa)));have nA:=n9 _ bC;have dR:=nA.len;refine .new (d:=d) (t:=⟨.optr τ,x⟩) (cs:=[.pointer (some ⟨w.heap.size,0,none⟩)]) (f:=[w.heap.size]) ag ar hr rfl ⟨w.heap.size,0,[],cs,rfl,rfl,dR,es.alloc (fun j v al=>by simpa using al),jR.alloc (by simp[dR]),nA⟩ (by simp) (by simp) ai
theorem agf (ar:cc C st a.tmps w I rt fp) {an:List (Nat×aq)} {d:Nat} {T:TypeId} (aH:o.op=.alloc T) (h:(BK E.tt an st.h d T).K Q):Yields E C st a w I rt fp o Q:=by
 unfold BK at h;split at h
 case h_2=>exact h.elim
 rename_i u t bd nu aN;split at h
 case h_2=>exact h.elim
 rename_i z aZ;cases aa:bF u t with
 |false=>rw[aa] at h;exact h.elim
 |true=>
  rw[aa] at h;have aF:=(E.ok T u bd).lay aa;obtain⟨i,il,aK,aL,a8,bH⟩:=Bp aF aZ;refine .box (cs:=il.cells.toList) aN ar aF ?_ (fun w' _=>bH _ _) h;simp[execOp,aH,Instr.alloc,zeroValue,typeInfo,aK,aL,newVar,newRow]
def Ev (tt:List (TypeId×aq)) (h:List (Nat×a1)) (d:Nat) (T:TypeId) (x:aw):hY:=
 match az tt T,az h d with
 |some u,none=>match x with
  |.val τ x=>bif bF u τ then .d2 (.ref d []) [(d,⟨.optr τ,x⟩)] else .bad
  |_=>.bad
 |_,_=>.bad
theorem agW (ar:cc C st a.tmps w I rt fp) {d:Nat} {T:TypeId} {x:Operand} (aH:o.op=.box T x) (h:(Ev E.tt st.h d T (bj st.g x)).K Q):Yields E C st a w I rt fp o Q:=by
 have ab:=ar.bj x;unfold Ev at h;split at h
 case h_2=>exact h.elim
 rename_i u bd aN;split at h
 case h_2=>exact h.elim
 rename_i τ y ex;cases aa:bF u τ with
 |false=>rw[aa] at h;exact h.elim
 |true=>
  rw[aa] at h;rw[ex] at ab;generalize hv:a.eval x=v at ab;cases ab with|val r=>
  rename_i cs;have aF:=(E.ok T u bd).lay aa;refine .box (cs:=cs) aN ar aF ?_ (fun w' bC=>r.mono (fun m b aa=>⟨aa,bC m b aa⟩) (by simp)) h;simp[execOp,aH,hv,Instr.box,newVar,newRow,sn aF r.len r.one]
def coe (t:aq) (x:aw):Option t.den:=
 match x with
 |.val τ x=>if h:τ=t then some (h▸x) else none
 |.c5 v=>js t v.cells.toList
 |_=>none
def Ey (t:aq):List aw->Option (List t.den)
 |[]=>some []
 |x::r=>match coe t x,Ey t r with
  |some y,some l=>some (y::l)
  |_,_=>none
theorem N2 {M:du->Nat->Prop} {h:List (Nat×a1)} {t:aq} {T:TypeId} (bd:ei E.P t T) {x:aw} {v:Value} (ab:cw M w h rt fp x v) {y:t.den} (hc:coe t x=some y):bi M w t v.cells.toList y []:=by
 unfold coe at hc;split at hc
 ·rename_i τ z;split at hc
  ·rename_i e;subst e;cases hc;cases ab with|val r=>
   rw[sn bd r.len r.one];exact r
  ·cases hc
 ·cases ab;exact sZ hc
 ·cases hc
def A3:List (Nat×Operand)->Nat->Bool
 |[],_=>true
 |q::r,k=>Nat.beq q.1 k&&A3 r (k+1)
def BU (tt:List (TypeId×aq)) (an:List (Nat×aq)) (h:List (Nat×a1)) (g:Operand->aw) (d:Nat) (T:TypeId) (n:Nat) (parts:List (Nat×Operand)):hY:=
 match fU tt T,az h d with
 |some u,none=>
  let t:=match az an d with|some (.osl t)=>t|_=>u
  bif bF u t&&Nat.ble t.size 2000&&Nat.ble n 1000&&A3 parts 0&&Nat.beq parts.length n then
   match Ey t (parts.map fun q=>g q.2) with
   |some xs=>.d2 (.ref d []) [(d,⟨.osl t,xs⟩)]
   |none=>.bad
  else .bad
 |_,_=>.bad
theorem Va {t:aq}:∀{l:List aw} {xs:List t.den},Ey t l=some xs->xs.length=l.length/\∀(i:Nat) (x:t.den),xs[i]?=some x->∃y:aw,l[i]?=some y/\coe t y=some x
 |[],xs,h=>by cases h;exact⟨rfl,fun i x h=>by simp at h⟩
 |y::l,xs,h=>by
  simp only[Ey] at h;split at h
  ·rename_i z r aZ hr;cases h;obtain⟨J,R⟩:=Va hr;refine⟨by simp[J],fun i x hi=>?_⟩;cases i with
   |zero=>simp only[ld,cI] at hi;subst hi;exact⟨y,rfl,aZ⟩
   |succ i=>simpa using R i x (by simpa using hi)
  ·cases h
theorem vZ:∀{l:List (Nat×Operand)} {k:Nat},A3 l k=true->∀(i:Nat) (q:Nat×Operand),l[i]?=some q->q.1=k+i
 |[],_,_,i,q,h=>by simp at h
 |x::l,k,h,i,q,hi=>by
  simp only[A3,bM] at h;cases i with
  |zero=>simp only[ld,cI] at hi;subst hi;exact eZ h.1
  |succ i=>have:=vZ h.2 i q (by simpa using hi);omega
theorem ag0 (ar:cc C st a.tmps w I rt fp) {an:List (Nat×aq)} {d:Nat} {T:TypeId} {n:Nat} {parts:Array (Nat×Operand)} (aH:o.op=.buildSlice T n parts) (h:(BU E.tt an st.h (bj st.g) d T n parts.toList).K Q):Yields E C st a w I rt fp o Q:=by
 unfold BU at h;split at h
 case h_2=>exact h.elim
 rename_i u bd aN;generalize af:(match az an d with|some (.osl t)=>t|_=>u)=t at h;simp only at h;cases aa:(bF u t&&Nat.ble t.size 2000&&Nat.ble n 1000&&A3 parts.toList 0&&Nat.beq parts.toList.length n) with
 |false=>rw[aa] at h;exact h.elim
 |true=>
  rw[aa] at h;simp only[bM] at aa;obtain⟨⟨⟨⟨dn,dM⟩,hL⟩,jI⟩,BN⟩:=aa;have dM:=fw dM;have hL:=fw hL;have BN:parts.toList.length=n:=eZ BN;simp only[cond_true] at h;split at h
  case h_2=>exact h.elim
  rename_i xs Lr;obtain⟨j,S,_,aX,bI⟩:=fU.ok bd;have iO:=bI.lay dn;obtain⟨i,ahZ,dp,_⟩:=iO.info;have mV:=iO.pos;obtain⟨c4,cd⟩:=Va Lr;simp only[iI] at c4;have Gc:xs.length=n:=(by omega);have dR:n*t.size<=16777216:=(by have:n*t.size<=1000*2000:=oJ hL dM;omega);have mQ:∀(k:Nat) (q:Nat×Operand),parts.toList[k]?=some q->∃x:t.den,xs[k]?=some x/\bi (bK I C.B) w t (a.eval q.2).cells.toList x []:=(by intro k q ac;have pE:k<xs.length:=(by have:=(e9.1 ac).1;omega);obtain⟨y,aC,aV⟩:=cd k xs[k] (by simp);rw[f5,ac] at aC;simp only[g6,cI] at aC;subst aC;exact⟨xs[k],by simp,N2 iO (ar.bj q.2) aV⟩);obtain⟨Gl,PM,PN⟩:∃Ia:Array Value,(n*t.size=0->Ia=#[])/\(n*t.size≠0->∃p9,(zeroValue S).run E.P w=.ok p9 w/\Ia=p9.cells):=by
   by_cases aU:n*t.size=0
   ·exact⟨#[],fun _=>rfl,fun h=>absurd aU h⟩
   ·obtain⟨p9,_,Ql⟩:=ei.Pu iO;exact⟨p9.cells,fun h=>absurd h aU,fun _=>⟨p9,by simp[zeroValue,typeInfo,dp.info,Ql i dp.info],rfl⟩⟩
  obtain⟨r,bX,bn,a9,bD⟩:=Fy (fun i=>some (i*t.size,t.size)) (parts.toList.map fun q=>(q.1,a.eval q.2)) ((Array.range (n*t.size)).map (Gl[· %Gl.size]!)) (by
   intro q ai;obtain⟨p,ay,rfl⟩:=dj.1 ai;obtain⟨k,ac,rfl⟩:=jk.1 ay;have ky:parts.toList[k]?=some parts.toList[k]:=(by simp);obtain⟨x,_,ab⟩:=mQ k _ ky;have e:=vZ jI k _ ky;have:(k+1)*t.size<=n*t.size:=jT _ (by omega);rw[iJ,kP] at this;refine⟨_,_,rfl,by have:=ab.len;simpa using this,?_⟩;simp only[Array.size_map,Array.size_range];rw[e,ks];exact this) (by
   rw[iX];intro k l ac ah pE hQ gP mf iC aC aV;simp only[List.getElem_map,cI,gz] at aC aV;simp only[iI] at ac ah;have f1:=vZ jI k parts.toList[k] (by simp);have cC:=vZ jI l parts.toList[l] (by simp);obtain⟨rfl,rfl⟩:=aC;obtain⟨rfl,rfl⟩:=aV;left;rw[f1,cC];have:(0+k+1)*t.size<=(0+l)*t.size:=jT _ (by omega);rw[iJ,kP] at this;exact this)
  have P8:r.size=n*t.size:=(by rw[bn];simp);refine .new (d:=d) (t:=⟨.osl t,xs⟩) (cells:=r) (T:=S) (cs:=[.slice (some ⟨w.heap.size,0,none⟩) n n]) (f:=[w.heap.size]) aN ar ?_ rfl ?_ (by simp) (by simp) h
  ·have d8:=iO.sizeOf w;have fA:¬(16777216<n*t.size):=(by omega);have qE:(Array.map (fun x=>(x.fst,a.eval x.snd)) parts).toList=parts.toList.map fun q=>(q.1,a.eval q.2):=(by simp);simp only[execOp,aH,Instr.buildSlice,Sem.run_bind,run_underlying aX,Result.andThen_ok,d8];rw[if_neg (by omega)];by_cases aU:n*t.size=0
   ·rw[if_pos aU];obtain rfl:=PM aU;rw[qE];simp only[Sem.run_bind,Sem.run_pure,Result.andThen_ok,bX,newRow,newObj];rfl
   ·rw[if_neg aU];obtain⟨p9,Ge,rfl⟩:=PN aU;rw[qE];simp only[Sem.run_bind,Sem.run_pure,Result.andThen_ok,Ge,bX,newRow,newObj];rfl
  ·refine⟨some ⟨w.heap.size,0,none⟩,n,by rw[Gc],.inr ⟨w.heap.size,0,List.replicate n [],rfl,by simp,by simp[Gc],(by show xs.length<=n;omega),jR.alloc (by rw[P8];omega),fun k x g ab aD=>?_⟩⟩;have ac:k<n:=(by have:k<xs.length:=(e9.1 ab).1;omega);obtain rfl:[]=g:=(by rw[pc,if_pos ac] at aD;exact ff aD);have ky:parts.toList[k]?=some (parts.toList[k]'(by omega)):=by simp
   obtain⟨ht,vg,n9⟩:=mQ k _ ky;rw[ab] at vg;obtain rfl:=ff vg;refine⟨_,n9.len,es.alloc (fun j v al=>?_),n9.mono (fun m b aa=>⟨aa,.of_heap ((hV.alloc w _).heap b (ar.ib b (pQ aa)))⟩) (by simp)⟩;have:=bD (parts.toList[k].1,a.eval parts.toList[k].2) (dj.2 ⟨parts.toList[k],dt _,rfl⟩) _ _ rfl j v (by simpa using al);have e:=vZ jI k _ ky;rw[e,ks] at this;simpa using this
end
end
section
def nD (l:List (Nat×Operand)) (n:Nat):Option Operand:=az l n
def tG (
 g:Operand->aw) (parts:List (Nat×Operand)):aq->Nat->Option a1
 |.pr a b,n=>
  match(match nD parts n with
   |none=>match nL a with
    |some z=>some (⟨a,z⟩:a1)
    |none=>none
   |some x=>match g x with
    |.val τ y=>bif bF a τ then some ⟨τ,y⟩ else none
    |.c5 v=>match js a v.cells.toList with
     |some y=>some ⟨a,y⟩
     |none=>none
    |_=>none),tG g parts b (n+1) with
  |some x,some y=>some ⟨.pr x.1 y.1,(x.2,y.2)⟩
  |_,_=>none
 |.nil,_=>some ⟨.nil,()⟩
 |_,_=>none
def og:List (Nat×Operand)->Nat->Bool
 |[],_=>true
 |q::r,k=>Nat.ble k q.1&&og r (q.1+1)
def fG:aq->Nat
 |.pr _ b=>fG b+1
 |_=>0
theorem Qq:∀{l:List (Nat×Operand)} {k:Nat},og l k=true->∀q∈l,k<=q.1
 |[],_,_,q,h=>by cases h
 |x::l,k,h,q,ai=>by
  simp only[og,bM] at h;rcases dV.1 ai with rfl|ai
  ·exact fw h.1
  ·have:=Qq h.2 q ai;have:=fw h.1;omega
theorem Qs:∀{l:List (Nat×Operand)} {k:Nat},og l k=true->l.Pairwise fun q r=>q.1<r.1
 |[],_,_=>List.Pairwise.nil
 |x::l,k,h=>by simp only[og,bM] at h;exact List.Pairwise.cons (fun q ai=>by have:=Qq h.2 q ai;omega) (Qs h.2)
theorem GM {α:Type}:∀{l:List (Nat×α)} {k:Nat} {v:α},az l k=some v->(k,v)∈l
 |[],_,_,h=>by cases h
 |(k0,v0)::r,k,v,h=>by
  rw[db] at h;split at h
  ·rename_i e;subst e;cases h;simp
  ·exact f6 _ (GM h)
theorem QR {α:Type}:∀{l:List (Nat×α)} {k:Nat},az l k=none->∀q∈l,q.1≠k
 |[],_,_,q,ai=>by cases ai
 |(k0,v0)::r,k,h,q,ai=>by
  rw[db] at h;split at h
  ·cases h
  ·rename_i e;rcases dV.1 ai with rfl|ai
   ·exact e
   ·exact QR h q ai
theorem vF {P:Program}:∀{u:aq} {fs:List Field} {off:Nat} {zs:List Value},ji P u fs off zs->∀n,n<fG u->∃s t,ez u n=some (s,t)
 |.pr a b,f::r,off,zs,h,0,_=>⟨_,_,rfl⟩
 |.pr a b,f::r,off,zs,h,n+1,ag=>by obtain⟨s,t,hs⟩:=vF (u:=b) h.2.2.2.2 n (by simp only[fG] at ag;omega);exact⟨.snd::s,t,by simp[ez,hs]⟩
 |.pr _ _,[],_,_,h,_,_=>h.elim
 |.int _,_,_,_,_,_,ag=>by simp[fG] at ag
 |.bool,_,_,_,_,_,ag=>by simp[fG] at ag
 |.str,_,_,_,_,_,ag=>by simp[fG] at ag
 |.bJ _ _,_,_,_,_,_,ag=>by simp[fG] at ag
 |.osl _,_,_,_,_,_,ag=>by simp[fG] at ag
 |.ptr _ _,_,_,_,_,_,ag=>by simp[fG] at ag
 |.optr _,_,_,_,_,_,ag=>by simp[fG] at ag
 |.st _,_,_,_,_,_,ag=>by simp[fG] at ag
 |.nil,_,_,_,_,_,ag=>by simp[fG] at ag
 |.dw,_,_,_,_,_,ag=>by simp[fG] at ag
theorem zO:∀{u:aq} {n m:Nat} {s s':List bw} {t t':aq},ez u n=some (s,t)->ez u m=some (s',t')->n<m->dU u n+t.size<=dU u m
 |.pr a b,0,m+1,s,s',t,t',h,a2,_=>by simp only[ez,cI,gz] at h;obtain⟨_,rfl⟩:=h;simp[dU]
 |.pr a b,n+1,m+1,s,s',t,t',h,a2,ah=>by
  simp only[ez] at h a2;cases ai:ez b n with
  |none=>rw[ai] at h;cases h
  |some q=>
   cases fq:ez b m with
   |none=>rw[fq] at a2;cases a2
   |some gH=>
    rw[ai] at h;rw[fq] at a2;simp only[cI,gz] at h a2;obtain⟨_,rfl⟩:=h;obtain⟨_,rfl⟩:=a2;have:=zO (u:=b) (s:=q.1) (t:=q.2) (s':=gH.1) (t':=gH.2) ai fq (by omega);simp only[dU];omega
 |.int _,_,_,_,_,_,_,h,_,_=>by cases h
 |.bool,_,_,_,_,_,_,h,_,_=>by cases h
 |.str,_,_,_,_,_,_,h,_,_=>by cases h
 |.bJ _ _,_,_,_,_,_,_,h,_,_=>by cases h
 |.osl _,_,_,_,_,_,_,h,_,_=>by cases h
 |.ptr _ _,_,_,_,_,_,_,h,_,_=>by cases h
 |.optr _,_,_,_,_,_,_,h,_,_=>by cases h
 |.st _,_,_,_,_,_,_,h,_,_=>by cases h
 |.nil,_,_,_,_,_,_,h,_,_=>by cases h
 |.dw,_,_,_,_,_,_,h,_,_=>by cases h
theorem OX:∀{u:aq} {n:Nat} {s:List bw} {t:aq},ez u n=some (s,t)->n<fG u
 |.pr a b,0,_,_,_=>by simp[fG]
 |.pr a b,n+1,s,t,h=>by
  simp only[ez] at h;split at h
  ·rename_i q ai;have:=OX (u:=b) (s:=q.1) (t:=q.2) ai;simp only[fG];omega
  ·cases h
 |.int _,_,_,_,h=>by cases h
 |.bool,_,_,_,h=>by cases h
 |.str,_,_,_,h=>by cases h
 |.bJ _ _,_,_,_,h=>by cases h
 |.osl _,_,_,_,h=>by cases h
 |.ptr _ _,_,_,_,h=>by cases h
 |.optr _,_,_,_,h=>by cases h
 |.st _,_,_,_,h=>by cases h
 |.nil,_,_,_,h=>by cases h
 |.dw,_,_,_,h=>by cases h
theorem Qr:∀{l:List (Nat×Operand)} {k:Nat} {p:Nat×Operand},og l k=true->p∈l->nD l p.1=some p.2
 |[],_,_,_,h=>by cases h
 |x::l,k,p,h,ay=>by
  simp only[og,bM] at h;obtain⟨DN,kq⟩:=x;unfold nD;rw[db];rcases dV.1 ay with rfl|ay
  ·rw[if_pos rfl]
  ·have:=Qq h.2 p ay;simp only at this;rw[if_neg (by omega)];exact Qr h.2 ay
section
variable {E:eI} {C:dZ} {st:ba} {a:Act} {w:World} {I:Nat->Prop} {rt:Nat->List Value} {fp:Nat->List Nat} {o:Oper} {Q:aw->List (Nat×a1)->Prop}
def Eu (tt:List (TypeId×aq)) (g:Operand->aw) (T:TypeId) (parts:List (Nat×Operand)):hY:=
 match m0 tt T with
 |none=>.bad
 |some u=>bif og parts 0&&parts.all (fun q=>Nat.blt q.1 (fG u)) then match tG g parts u 0 with
   |some t=>.d2 (.val (.st t.1) t.2) []
   |none=>.bad
  else .bad
theorem YU {P:Program} {M:du->Nat->Prop} {h:List (Nat×a1)} {g:Operand->aw} {h2:Operand->Value} (aD:∀x,cw M w h rt fp (g x) (h2 x)) {parts:List (Nat×Operand)} {cells:List Value}:∀{u:aq} {n:Nat} {fs:List Field} {off:Nat} {zs:List Value} {t:a1},ji P u fs off zs->tG g parts u n=some t->cells.length=off+u.size->(∀m s τ,ez u m=some (s,τ)->(∀x,nD parts (n+m)=some x->(h2 x).cells.size=τ.size/\(cells.drop (off+dU u m)).take τ.size=(h2 x).cells.toList)/\(nD parts (n+m)=none->(cells.drop (off+dU u m)).take τ.size=(zs.drop (dU u m)).take τ.size))->bi M w t.1 (cells.drop off) t.2 []/\t.1.size=u.size
 |.pr a b,n,f::r,off,zs,t,c9,ao,ah,hc=>by
  simp only[tG] at ao;split at ao
  case h_2=>cases ao
  rename_i x y ab aB;cases ao;obtain⟨J,R,ae,⟨i,z,aK,aL,a8⟩,aX⟩:=c9;have n7:=hc 0 _ a rfl;simp only[pg,dU,rf] at n7;have eS:bi M w x.1 ((cells.drop off).take a.size) x.2 []/\x.1.size=a.size:=by
   split at ab
   ·rename_i ay;split at ab
    ·rename_i hI aZ;cases ab;obtain⟨kB,il,bX,bn,_,bD⟩:=Bp R aZ;rw[aK] at bX;cases bX;rw[aL] at bn;cases bn;rw[n7.2 ay,a8];exact⟨bD M w,rfl⟩
    ·cases ab
   ·rename_i p ay;have kx:=aD p;obtain⟨bu,bE⟩:=n7.1 p ay;split at ab
    ·rename_i τ y' e;cases aa:bF a τ with
     |false=>rw[aa] at ab;cases ab
     |true=>
      rw[aa] at ab;cases ab;rw[e] at kx;rw[bE];generalize hv:h2 p=v at kx;cases kx with|val kF=>
      rw[sn (R.lay aa) kF.len kF.one];exact⟨kF,(bF.size aa).symm⟩
    ·rename_i v e;split at ab
     ·rename_i y' tu;cases ab;rw[e] at kx;rw[bE];generalize hv:h2 p=ed at kx;cases kx;exact⟨sZ tu,rfl⟩
     ·cases ab
    ·cases ab
  have eP:=YU aD (parts:=parts) (cells:=cells) (u:=b) (n:=n+1) (off:=off+a.size) (zs:=zs.drop a.size) aX aB (by rw[ah];simp only[aq.size];omega) (by
   intro m s τ hs;have:=hc (m+1) (.snd::s) τ (by simp[ez,hs]);simp only[dU] at this;rw[show n+(m+1)=n+1+m by omega,show off+(a.size+dU b m)=off+a.size+dU b m by omega] at this;rw[uj];exact this)
  refine⟨⟨[],[],rfl,?_,?_⟩,by simp only[aq.size];omega⟩
  ·rw[eS.2];exact eS.1
  ·rw[eS.2,uj];exact eP.1
 |.nil,n,[],off,zs,t,c9,ao,ah,hc=>by cases ao;exact⟨⟨rfl,by rw[List.drop_eq_nil_iff];simp only[aq.size] at ah;omega⟩,rfl⟩
 |.pr _ _,_,[],_,_,_,h,_,_,_=>h.elim
 |.nil,_,_::_,_,_,_,h,_,_,_=>h.elim
 |.int _,_,_,_,_,_,h,_,_,_=>by cases h
 |.bool,_,_,_,_,_,h,_,_,_=>by cases h
 |.str,_,_,_,_,_,h,_,_,_=>by cases h
 |.bJ _ _,_,_,_,_,_,h,_,_,_=>by cases h
 |.osl _,_,_,_,_,_,h,_,_,_=>by cases h
 |.ptr _ _,_,_,_,_,_,h,_,_,_=>by cases h
 |.optr _,_,_,_,_,_,h,_,_,_=>by cases h
 |.st _,_,_,_,_,_,h,_,_,_=>by cases h
 |.dw,_,_,_,_,_,h,_,_,_=>by cases h
theorem YV {P:Program} {M:du->Nat->Prop} {h:List (Nat×a1)} {g:Operand->aw} {h2:Operand->Value} (aD:∀x,cw M w h rt fp (g x) (h2 x)) {parts:List (Nat×Operand)}:∀{u:aq} {n:Nat} {fs:List Field} {off:Nat} {zs:List Value} {t:a1},ji P u fs off zs->tG g parts u n=some t->∀m s τ,ez u m=some (s,τ)->∀x,nD parts (n+m)=some x->(h2 x).cells.size=τ.size
 |.pr a b,n,f::r,off,zs,t,c9,ao,m,s,τ,hs,x,ay=>by
  simp only[tG] at ao;split at ao
  case h_2=>cases ao
  rename_i na g4 ab aB;obtain⟨J,R,ae,⟨i,z,aK,aL,a8⟩,aX⟩:=c9;cases m with
  |zero=>
   simp only[ez,cI,gz] at hs;obtain⟨_,rfl⟩:=hs;rw[pg] at ay;rw[ay] at ab;have kx:=aD x;simp only at ab;split at ab
   ·rename_i τ y' e;cases aa:bF a τ with
    |false=>rw[aa] at ab;cases ab
    |true=>
     rw[e] at kx;generalize hv:h2 x=v at kx;cases kx with|val kF=>
     rw[sn (R.lay aa) kF.len kF.one];have:=kF.len;have:=bF.size aa;simp;omega
   ·rename_i v e;split at ab
    ·rename_i y' tu;rw[e] at kx;generalize hv:h2 x=ed at kx;cases kx;have:=(sZ (M:=M) (w:=w) tu).len;simpa using this
    ·cases ab
   ·cases ab
  |succ m=>
   simp only[ez] at hs;split at hs
   ·rename_i q ai;simp only[cI,gz] at hs;obtain⟨_,rfl⟩:=hs;exact YV aD (u:=b) (n:=n+1) aX aB m q.1 q.2 ai x (by rwa[show n+1+m=n+(m+1) by omega])
   ·cases hs
 |.pr _ _,_,[],_,_,_,h,_,_,_,_,_,_,_=>h.elim
 |.nil,_,_,_,_,_,_,_,_,_,_,hs,_,_=>by cases hs
 |.int _,_,_,_,_,_,h,_,_,_,_,_,_,_=>by cases h
 |.bool,_,_,_,_,_,h,_,_,_,_,_,_,_=>by cases h
 |.str,_,_,_,_,_,h,_,_,_,_,_,_,_=>by cases h
 |.bJ _ _,_,_,_,_,_,h,_,_,_,_,_,_,_=>by cases h
 |.osl _,_,_,_,_,_,h,_,_,_,_,_,_,_=>by cases h
 |.ptr _ _,_,_,_,_,_,h,_,_,_,_,_,_,_=>by cases h
 |.optr _,_,_,_,_,_,h,_,_,_,_,_,_,_=>by cases h
 |.st _,_,_,_,_,_,h,_,_,_,_,_,_,_=>by cases h
 |.dw,_,_,_,_,_,h,_,_,_,_,_,_,_=>by cases h
theorem run_places {P:Program} (w:World):∀(u:aq) (fs:List Field) (off:Nat) (zs:List Value),ji P u fs off zs->(fs.mapM fun f=>do Pure.pure (f.offset,<-sizeOf f.type):Sem (List axM)).run P w=.ok ((List.range (fG u)).map fun n=>(off+dU u n,match ez u n with|some q=>q.2.size|none=>0)) w
 |.pr a b,f::r,off,zs,h=>by have aT:=run_places w b r (off+a.size) (zs.drop a.size) h.2.2.2.2;simp only[List.mapM_cons,Sem.run_bind,h.2.1.sizeOf,Result.andThen_ok,Sem.run_pure,aT];simp only[fG,List.range_succ_eq_map,eY,wE,h.1,dU,pg,ez];congr 2;apply ke;intro n _;simp only[Function.comp,dU,ez];rw[BE];cases ez b n<;>rfl
 |.nil,[],_,_,_=>rfl
 |.pr _ _,[],_,_,h=>h.elim
 |.nil,_::_,_,_,h=>h.elim
 |.int _,_,_,_,h=>by cases h
 |.bool,_,_,_,h=>by cases h
 |.str,_,_,_,h=>by cases h
 |.bJ _ _,_,_,_,h=>by cases h
 |.osl _,_,_,_,h=>by cases h
 |.ptr _ _,_,_,_,h=>by cases h
 |.optr _,_,_,_,h=>by cases h
 |.st _,_,_,_,h=>by cases h
 |.dw,_,_,_,h=>by cases h
theorem agP (ar:cc C st a.tmps w I rt fp) {T:TypeId} {parts:Array (Nat×Operand)} (aH:o.op=.build T parts) (h:(Eu E.tt (bj st.g) T parts.toList).K Q):Yields E C st a w I rt fp o Q:=by
 unfold Eu at h;split at h
 ·exact h.elim
 rename_i u bd;cases aa:(og parts.toList 0&&parts.toList.all (fun q=>Nat.blt q.1 (fG u))) with
 |false=>rw[aa] at h;exact h.elim
 |true=>
  rw[aa] at h;simp only[bM,fk] at aa;obtain⟨dn,dM⟩:=aa;simp only[cond_true] at h;split at h
  case h_2=>exact h.elim
  rename_i t af;obtain⟨i,fs,zs,J,R,aI,aX,bI,eO⟩:∃i fs zs,E.P.info? T=some i/\i.size=u.size/\i.zero=some (.agg zs)/\E.P.underlying T=some (.struct fs)/\ji E.P u fs.toList 0 zs.toList/\zs.size=u.size:=by
   unfold m0 at bd;split at bd
   ·rename_i iG ah;cases bd;obtain⟨_,i,fs,zs,aK,aL,_,bH,dp,tM,AO⟩:=E.ok T _ ah;exact⟨i,fs,zs,aK,aL,bH,dp,tM,AO⟩
   ·cases bd
  have d8:=YV (fun x=>ar.bj x) bI af;have nz:=run_places (P:=E.P) w u fs.toList 0 zs.toList bI;simp only[ks] at nz d8;generalize P5:((List.range (fG u)).map fun n=>(dU u n,match ez u n with|some q=>q.2.size|none=>0))=AM at nz;have r0:∀n s τ,ez u n=some (s,τ)->n<fG u->AM.toArray[n]?=some (dU u n,τ.size):=(by intro n s τ hs ag;rw[<-P5];simp[ag,hs]);obtain⟨r,bX,bn,a9,bD⟩:=Fy (fun i=>AM.toArray[i]?) (parts.toList.map fun q=>(q.1,a.eval q.2)) zs (by
   intro q ai;obtain⟨p,ay,rfl⟩:=dj.1 ai;have cg:p.1<fG u:=fw (dM p ay);obtain⟨s,τ,hs⟩:=vF bI p.1 cg;refine⟨_,_,r0 _ _ _ hs cg,d8 _ _ _ hs p.2 ?_,by rw[eO];exact Co hs⟩;exact Qr dn ay) (by
   rw[BC];refine(Qs dn).imp_of_mem ?_;intro q gH ai fq cg hQ gP mf iC aC aV;have da:q.1<fG u:=fw (dM q ai);have l2:gH.1<fG u:=fw (dM gH fq);obtain⟨SF,ta,aG⟩:=vF bI q.1 da;obtain⟨atC,tb,aa⟩:=vF bI gH.1 l2;rw[r0 _ _ _ aG da] at aC;rw[r0 _ _ _ aa l2] at aV;cases aC;cases aV;exact .inl (zO aG aa cg))
  have qG:r.toList.length=u.size:=(by simp[bn,eO]);obtain⟨bT,bz⟩:=YU (w:=w) (fun x=>ar.bj x) (parts:=parts.toList) (cells:=r.toList) (u:=u) (n:=0) (off:=0) bI af (by omega) (by
   intro m s τ hs;have ao:m<fG u:=OX hs;simp only[ks];have fb:=Co hs;refine⟨fun x ab=>?_,fun ab=>?_⟩
   ·have kz:=GM ab;have aZ:=d8 m s τ hs x ab;refine⟨aZ,?_⟩;apply jj;intro j;rcases ch j τ.size with al|al
    ·obtain⟨v,hv⟩:∃v,(a.eval x).cells[j]?=some v:=⟨_,DV (by omega)⟩;have:=bD (m,a.eval x) (dj.2 ⟨(m,x),kz,rfl⟩) _ _ (r0 _ _ _ hs ao) j v hv;rw[oG al,ng];simp only[Bq];rw[this,hv]
    ·rw[gy (by simp;omega),gy (by simp;omega)]
   ·apply jj;intro j;rcases ch j τ.size with al|al
    ·rw[oG al,oG al,ng,ng];simp only[Bq];refine a9 _ ?_;intro q ai hQ gP aC;obtain⟨p,ay,rfl⟩:=dj.1 ai;have cL:=QR ab p ay;have da:p.1<fG u:=fw (dM p ay);obtain⟨SF,ta,aG⟩:=vF bI p.1 da;rw[r0 _ _ _ aG da] at aC;cases aC;rcases Nat.lt_or_gt_of_ne cL with cg|La
     ·have:=zO aG hs cg;omega
     ·have:=zO hs aG La;omega
    ·rw[gy (by simp;omega),gy (by simp;omega)])
  rw[rf] at bT;refine .pure (v:=.agg r) ?_ (.val (τ:=.st t.1) (cs:=r.toList) bT) h;have qE:(Array.map (fun x=>(x.fst,a.eval x.snd)) parts).toList=parts.toList.map fun q=>(q.1,a.eval q.2):=(by simp);have P4:(fs.mapM fun f=>do Pure.pure (f.offset,<-sizeOf f.type):Sem (Array axM)).run E.P w=.ok AM.toArray w:=(by rw[Array.mapM_eq_mapM_toList,Sem.run_map,nz];rfl);have aZ:(zeroValue T).run E.P w=.ok (.agg zs) w:=(by simp[zeroValue,typeInfo,J,aI]);simp only[execOp,aH,Instr.build,Sem.run_bind,aZ,run_underlying aX,Result.andThen_ok,P4,qE,Value.cells,bX];rfl
end
end
section
def eU {α:Type}:List (Int×α)->Int->Option α
 |[],_=>none
 |(a,v)::r,k=>if a=k then some v else eU r k
def jg {α:Type}:List (Int×α)->Int->α->List (Int×α)
 |[],k,v=>[(k,v)]
 |(a,u)::r,k,v=>if k<a then(k,v)::(a,u)::r else if k=a then(k,v)::r else(a,u)::jg r k v
def jO {α:Type} (l:List (Int×α)) (k:Int):List (Int×α):=l.filter fun q=>decide (q.1≠k)
def k2 {α:Type} (m:Option (List (Int×α)×Nat)) (k:Int):Option α:=m.bind fun q=>eU q.1 k
def C8 {α:Type} (m:Option (List (Int×α)×Nat)):Int:=match m with|some q=>(q.1.length:Int)|none=>0
section
variable {α:Type}
theorem LW:∀{l:List (Int×α)} {k:Int} {v:α},eU l k=some v->(k,v)∈l
 |[],_,_,h=>by cases h
 |(a,u)::r,k,v,h=>by
  simp only[eU] at h;split at h
  ·rename_i e;cases h;subst e;exact mB ..
  ·exact f6 _ (LW h)
theorem YE:∀{l:List (Int×α)} {k:Int},eU l k=none->∀v,(k,v)∉l
 |[],_,_,_=>by simp
 |(a,u)::r,k,h,v=>by
  simp only[eU] at h;split at h
  ·cases h
  ·rename_i e;intro ao;rcases dV.1 ao with J|J
   ·cases J;exact e rfl
   ·exact YE h v J
theorem abp {l:List (Int×α)} (h:l.Pairwise (fun a b=>a.1<b.1)):(l.map (·.1)).Nodup:=by rw[List.Nodup,BC];exact h.imp (fun h e=>by omega)
theorem an9 {l:List (Int×α)} (h:(l.map (·.1)).Nodup) {k:Int} {v:α}:eU l k=some v↔(k,v)∈l:=by
 constructor
 ·exact LW
 ·intro ao
  induction l with
  |nil=>cases ao
  |cons q r aT=>
   obtain⟨a,u⟩:=q;simp only[eY,lQ] at h;simp only[eU];rcases dV.1 ao with J|J
   ·cases J;rw[if_pos rfl]
   ·rw[if_neg,aT h.2 J];rintro rfl;exact h.1 (dj.2 ⟨_,J,rfl⟩)
theorem YF:∀{l:List (Int×α)} {k:Int} {v:α} {q:Int×α},q∈jg l k v->q=(k,v)\/q∈l
 |[],k,v,q,h=>by simpa[jg] using h
 |(a,u)::r,k,v,q,h=>by
  simp only[jg] at h;split at h
  ·rcases dV.1 h with h|h
   ·exact .inl h
   ·exact .inr h
  ·split at h
   ·rcases dV.1 h with h|h
    ·exact .inl h
    ·exact .inr (f6 _ h)
   ·rcases dV.1 h with h|h
    ·exact .inr (h▸mB ..)
    ·exact(YF h).imp id (f6 _)
theorem Q2:∀{l:List (Int×α)} {k:Int} {v:α},l.Pairwise (fun a b=>a.1<b.1)->(jg l k v).Pairwise (fun a b=>a.1<b.1)
 |[],k,v,_=>by simp[jg]
 |(a,u)::r,k,v,h=>by
  rw[ri] at h;simp only[jg];split
  ·rename_i ac;rw[ri,ri];refine⟨fun q ai=>?_,h.1,h.2⟩;rcases dV.1 ai with rfl|ai
   ·exact ac
   ·have:=h.1 q ai;simp only at this|-;omega
  ·rename_i ac;split
   ·rename_i e;subst e;rw[ri];exact⟨h.1,h.2⟩
   ·rename_i e;rw[ri];refine⟨fun q ai=>?_,Q2 h.2⟩;rcases YF ai with rfl|ai
    ·simp only;omega
    ·exact h.1 q ai
theorem an7 {l:List (Int×α)} {k:Int} (h:l.Pairwise (fun a b=>a.1<b.1)):(jO l k).Pairwise (fun a b=>a.1<b.1):=h.filter _
theorem Q1:∀{l:List (Int×α)} {k:Int} {v:α},l.Pairwise (fun a b=>a.1<b.1)->(jg l k v).Perm ((k,v)::jO l k)
 |[],k,v,_=>by simp[jg,jO]
 |(a,u)::r,k,v,h=>by
  rw[ri] at h;simp only[jg];split
  ·rename_i ac;have:jO ((a,u)::r) k=(a,u)::r:=by
    unfold jO;rw[qh];intro q ai;rcases dV.1 ai with rfl|ai
    ·simp;omega
    ·have:=h.1 q ai;simp only at this;simp;omega
   rw[this]
  ·rename_i ac;split
   ·rename_i e;subst e;have:jO ((k,u)::r) k=r:=by
     unfold jO;rw[mA,if_neg (by simp),qh];intro q ai;have:=h.1 q ai;simp only at this;simp;omega
    rw[this]
   ·rename_i e;have:jO ((a,u)::r) k=(a,u)::jO r k:=by
     unfold jO;rw[mA,if_pos (by simp;omega)]
    rw[this];exact((Q1 h.2).cons _).trans (.swap _ _ _)
end
section
variable {P:Program} {w:World} {b:Nat} {bG:Array MapEntry} {c:Nat}
theorem pO:jy w b=some (bG,c)↔w.heap[b]?=some (.map bG c):=by
 unfold jy;constructor
 ·intro h;split at h
  ·rename_i es' c' ax;cases h;exact ax
  ·cases h
 ·intro h;rw[h]
theorem tT {es':Array MapEntry} {c':Nat} (h:w.heap[b]?=some (.map bG c)):(setObj b (.map es' c')).run P w=.ok () {w with heap:=w.heap.setIfInBounds b (.map es' c')}:=by simp[setObj,Sem.run,h]
theorem run_getObj_map (h:w.heap[b]?=some (.map bG c)):(getObj b).run P w=.ok (.map bG c) w:=by simp[getObj,Sem.run,h]
theorem VZ {kd:IntKind} (k:Int):∀(bG:List MapEntry) (tC:List Int) (n:Nat),bG.map (·.key)=tC.map (Value.int .i64)->k∉tC->Instr.findNow (.int kd) (.int .i64 k) bG n=some none
 |[],_,_,_,_=>rfl
 |e::bG,[],_,h,_=>by cases h
 |e::bG,a::tC,n,h,ac=>by simp only[eY,hh] at h;have cL:(k==a)=false:=(by simp;rintro rfl;exact ac (by simp));simp only[Instr.findNow,h.1,Instr.sameNow,if_true,cL];exact VZ k bG tC (n+1) h.2 (fun ax=>ac (f6 _ ax))
theorem V0 {kd:IntKind} (k:Int):∀(bG:List MapEntry) (tC:List Int) (n:Nat),bG.map (·.key)=tC.map (Value.int .i64)->k∈tC->∃i e,tC[i]?=some k/\bG[i]?=some e/\Instr.findNow (.int kd) (.int .i64 k) bG n=some (some (n+i,e.val))
 |[],[],_,_,h=>by cases h
 |[],_::_,_,h,_=>by cases h
 |e::bG,[],_,h,_=>by cases h
 |e::bG,a::tC,n,h,ac=>by
  simp only[eY,hh] at h;by_cases ep:k=a
  ·subst ep;refine⟨0,e,rfl,rfl,?_⟩;simp only[Instr.findNow,h.1,Instr.sameNow,if_true,beq_self_eq_true];rfl
  ·have cL:(k==a)=false:=(by simpa using ep);obtain⟨i,dy,J,R,ae⟩:=V0 k bG tC (n+1) h.2 ((dV.1 ac).resolve_left ep);refine⟨i+1,dy,by simpa using J,by simpa using R,?_⟩;simp only[Instr.findNow,h.1,Instr.sameNow,if_true,cL];rw[ae];simp only[cI,gz,and_true];omega
structure gT (M:du->Nat->Prop) (w:World) (t:aq) (b:Nat) (l:List (Int×t.den)) (c:Nat) (bG:Array MapEntry) (L:List (Int×Nat×t.den)):Prop where
 sc:lf L l c
 h:w.heap[b]?=some (.map bG c)
 n:bG.size=L.length
 e:∀(i:Nat) (q:Int×Nat×t.den),L[i]?=some q->∃ds:List Value,ds.length=t.size/\bG[i]?=some (MapEntry.mk (.int .i64 q.1) (cH t ds) q.2.1)/\bi M w t ds q.2.2 []
variable {M:du->Nat->Prop} {t:aq} {l:List (Int×t.den)} {L:List (Int×Nat×t.den)}
theorem gT.keys (h:gT M w t b l c bG L):bG.toList.map (·.key)=(L.map (·.1)).map (Value.int .i64):=by
 apply jj;intro i;simp only[f5,Bq];rcases ch i L.length with hi|hi
 ·obtain⟨ds,_,R,_⟩:=h.e i L[i] (ct hi);rw[R,ct hi];rfl
 ·rw[gy hi,Array.getElem?_eq_none (by rw[h.n];exact hi)];rfl
theorem lf.keys {α:Type} {L:List (Int×Nat×α)} {l:List (Int×α)} {c:Nat} (h:lf L l c):(L.map (·.1)).Perm (l.map (·.1)):=by have:=h.2.1.map (·.1);rwa[wE] at this
theorem lf.Dh {α:Type} {L:List (Int×Nat×α)} {l:List (Int×α)} {c:Nat} (h:lf L l c):(L.map (·.1)).Nodup:=h.keys.nodup_iff.2 (abp h.1)
theorem lf.mem {α:Type} {L:List (Int×Nat×α)} {l:List (Int×α)} {c:Nat} (h:lf L l c) {q:Int×Nat×α} (ai:q∈L):eU l q.1=some q.2.2:=
 (an9 (abp h.1)).2 (h.2.1.mem_iff.1 (dj.2 ⟨q,ai,rfl⟩))
theorem lf.len {α:Type} {L:List (Int×Nat×α)} {l:List (Int×α)} {c:Nat} (h:lf L l c):L.length=l.length:=by have:=h.2.1.length_eq;simpa using this
theorem Sz {P:Program} {w:World} {K:TypeId} {kd:IntKind} (cn:P.underlying K=some (.int kd)) {k:Int} {bG:List MapEntry} {r:Option (Nat×Value)} (h:Instr.findNow (.int kd) (.int .i64 k) bG 0=some r):(Instr.findKey K (.int .i64 k) bG).run P w=.ok r w:=by simp only[Instr.findKey,Sem.run_bind,run_underlying cn,Result.andThen_ok,h];rfl
theorem qV {P:Program} {w:World} {K:TypeId} {kd:IntKind} (cn:P.underlying K=some (.int kd)) (e:Bool) (n:Nat) (k:Int):(Instr.checkKey e (n+1) K (.int .i64 k)).run P w=.ok () w:=by simp[Instr.checkKey,Sem.run_bind,run_underlying cn]
theorem gT.find (h:gT M w t b l c bG L) {K:TypeId} {kd:IntKind} (cn:P.underlying K=some (.int kd)) (k:Int):(eU l k=none/\(∀q∈L,q.1≠k)/\∀w',(Instr.findKey K (.int .i64 k) bG.toList).run P w'=.ok none w')\/∃i s y ds,eU l k=some y/\L[i]?=some (k,s,y)/\ds.length=t.size/\bG[i]?=some ⟨.int .i64 k,cH t ds,s⟩/\bi M w t ds y []/\∀w',(Instr.findKey K (.int .i64 k) bG.toList).run P w'=.ok (some (i,cH t ds)) w':=by
 by_cases ac:k∈L.map (·.1)
 ·obtain⟨i,e,J,R,ae⟩:=V0 (kd:=kd) k bG.toList _ 0 h.keys ac;rw[f5] at J;obtain⟨⟨cN,s,y⟩,aI,rfl⟩:=eM.1 J;obtain⟨ds,cJ,cz,cX⟩:=h.e i _ aI;rw[Bq,cz] at R;cases R;refine .inr ⟨i,s,y,ds,h.sc.mem (nQ aI),aI,cJ,cz,cX,fun w'=>Sz cn ?_⟩;rw[ae,ks]
 ·refine .inl ⟨?_,fun q ai e=>ac (dj.2 ⟨q,ai,e⟩),fun w'=>Sz cn (VZ k _ _ 0 h.keys ac)⟩;cases aD:eU l k with
  |none=>rfl
  |some y=>exact absurd (h.sc.keys.mem_iff.2 (dj.2 ⟨_,LW aD,rfl⟩)) ac
theorem gT.empty (M:du->Nat->Prop) (t:aq) (h:w.heap[b]?=some (.map #[] 0)):gT M w t b [] 0 #[] []:=
 ⟨⟨.nil,.refl _,.nil,by simp⟩,h,rfl,by simp⟩
def AF {α:Type} (L:List (Int×Nat×α)) (k:Int) (y:α) (c:Nat):List (Int×Nat×α)×Nat:=
 if k∈L.map (·.1) then(L.map fun q=>if q.1=k then(k,q.2.1,y) else q,c) else(L++[(k,c,y)],c+1)
theorem aah {α:Type} {k:Int} {y:α}:∀{A:List (Int×α)},(A.map (·.1)).Nodup->k∈A.map (·.1)->(A.map fun q=>if q.1=k then(k,y) else q).Perm ((k,y)::jO A k)
 |[],_,h=>by cases h
 |(a,u)::A,h,ac=>by
  simp only[eY,lQ] at h;simp only[eY];by_cases e:a=k
  ·subst e;rw[if_pos rfl];have J:(A.map fun q=>if q.1=a then(a,y) else q)=A:=by
    conv=>rhs;rw[<-List.map_id A]
    refine ke fun q ai=>?_;rw[if_neg];rfl;rintro rfl;exact h.1 (dj.2 ⟨q,ai,rfl⟩)
   have R:jO ((a,u)::A) a=A:=(by unfold jO;rw[mA,if_neg (by simp),qh];intro q ai;simp only[decide_eq_true_eq];rintro rfl;exact h.1 (dj.2 ⟨q,ai,rfl⟩));rw[J,R]
  ·rw[if_neg e];have R:jO ((a,u)::A) k=(a,u)::jO A k:=by
    unfold jO;rw[mA,if_pos (by simpa using e)]
   rw[R];refine((aah h.2 ?_).cons _).trans (.swap _ _ _);simp only[eY,dV] at ac;exact ac.resolve_left (fun dy=>e dy.symm)
theorem lf.put {α:Type} {L:List (Int×Nat×α)} {l:List (Int×α)} {c:Nat} (h:lf L l c) (k:Int) (y:α):lf (AF L k y c).1 (jg l k y) (bif (eU l k).isSome then c else c+1)/\(AF L k y c).2=(bif (eU l k).isSome then c else c+1):=by
 have aD:(eU l k).isSome=decide (k∈L.map (·.1)):=by
  by_cases ac:k∈L.map (·.1)
  ·obtain⟨q,ai,rfl⟩:=dj.1 ac;rw[h.mem ai,decide_eq_true ac];rfl
  ·rw[decide_eq_false ac];cases aD:eU l k with
   |none=>rfl
   |some v=>exact absurd (h.keys.mem_iff.2 (dj.2 ⟨_,LW aD,rfl⟩)) ac
 rw[aD];unfold AF;have akY:((L.map fun q=>(q.1,q.2.2)).filter fun q=>decide (q.1≠k)).Perm (jO l k):=h.2.1.filter _;by_cases ac:k∈L.map (·.1)
 ·rw[if_pos ac,decide_eq_true ac];refine⟨⟨Q2 h.1,?_,?_,?_⟩,rfl⟩
  ·have aC:((L.map fun q=>if q.1=k then(k,q.2.1,y) else q).map fun q=>(q.1,q.2.2))=(L.map fun q=>(q.1,q.2.2)).map fun q=>if q.1=k then(k,y) else q:=by
    simp only[wE];refine ke fun q _=>?_;simp only[Function.comp];by_cases e:q.1=k
    ·rw[if_pos e,if_pos e]
    ·rw[if_neg e,if_neg e]
   show((L.map fun q=>if q.1=k then(k,q.2.1,y) else q).map fun q=>(q.1,q.2.2)).Perm _;rw[aC];refine(aah ?_ ?_).trans ((akY.cons _).trans (Q1 h.1).symm)
   ·rw[wE];exact h.Dh
   ·rw[wE];exact ac
  ·have aC:((L.map fun q=>if q.1=k then(k,q.2.1,y) else q).map fun q=>q.2.1)=L.map fun q=>q.2.1:=by
    rw[wE];refine ke fun q _=>?_;simp only[Function.comp];split<;>rfl
   show((L.map fun q=>if q.1=k then(k,q.2.1,y) else q).map fun q=>q.2.1).Nodup;rw[aC];exact h.2.2.1
  ·intro q ai;obtain⟨lG,iP,rfl⟩:=dj.1 ai;have:=h.2.2.2 lG iP;show _<c;split<;>exact this
 ·rw[if_neg ac,decide_eq_false ac];refine⟨⟨Q2 h.1,?_,?_,?_⟩,rfl⟩
  ·have aV:jO l k=l:=by
    unfold jO;rw[qh];intro q ai;simp only[decide_eq_true_eq];rintro rfl;exact ac (h.keys.mem_iff.2 (dj.2 ⟨q,ai,rfl⟩))
   have:=Q1 (k:=k) (v:=y) h.1;rw[aV] at this;refine List.Perm.trans ?_ this.symm;show((L++[(k,c,y)]).map fun q=>(q.1,q.2.2)).Perm _;rw[jS];exact List.perm_append_comm.trans ((h.2.1).cons _)
  ·show((L++[(k,c,y)]).map fun q=>q.2.1).Nodup;rw[jS,kO];refine⟨h.2.2.1,by simp,fun a aG b aa e=>?_⟩;obtain⟨q,ai,rfl⟩:=dj.1 aG;have:=h.2.2.2 q ai;simp at aa;omega
  ·intro q ai;rcases fe.1 ai with ai|ai
   ·have:=h.2.2.2 q ai;show _<c+1;omega
   ·simp at ai;subst ai;exact Nat.lt_succ_self _
theorem VV {α:Type} {k:Int}:∀{A:List α} (f:α->Int) {i:Nat} {a:α},(A.map f).Nodup->A[i]?=some a->f a=k->A.eraseIdx i=A.filter fun q=>decide (f q≠k)
 |[],f,i,a,_,h,_=>by simp at h
 |x::A,f,0,a,ag,h,e=>by simp only[ld,cI] at h;subst h;simp only[eY,lQ] at ag;rw[List.eraseIdx_cons_zero,mA,if_neg (by simpa using e),qh.2];intro q ai;simp only[decide_eq_true_eq];intro aV;exact ag.1 (dj.2 ⟨q,ai,aV.trans e.symm⟩)
 |x::A,f,i+1,a,ag,h,e=>by simp only[uq] at h;simp only[eY,lQ] at ag;rw[List.eraseIdx_cons_succ,mA,if_pos,VV f ag.2 h e];simp only[decide_eq_true_eq];intro aV;exact ag.1 (dj.2 ⟨a,nQ h,e.trans aV.symm⟩)
theorem lf.del {α:Type} {L:List (Int×Nat×α)} {l:List (Int×α)} {c:Nat} (h:lf L l c) (k:Int):lf (L.filter fun q=>decide (q.1≠k)) (jO l k) c:=by
 refine⟨an7 h.1,?_,?_,fun q ai=>h.2.2.2 q (hX.1 ai).1⟩
 ·have:=h.2.1.filter (fun q=>decide (q.1≠k));rw[List.filter_map] at this;exact this
 ·exact h.2.2.1.sublist (List.filter_sublist.map _)
theorem bi.Y0 (h:gT M w t b l c bG L):bi M w (.mp t) [.map (some b)] (some (l,c)) [b]:=⟨b,bG,L,rfl,rfl,h.sc,pO.2 h.h,h.n,h.e⟩
theorem bi.YZ {cs:List Value} {f:List Nat} (h:bi M w (.mp t) cs (some (l,c)) f):∃b bG L,cs=[.map (some b)]/\f=[b]/\gT M w t b l c bG L:=by obtain⟨b,bG,L,J,R,ae,aI,aX,bI⟩:=h;exact⟨b,bG,L,J,R,ae,pO.1 aI,aX,bI⟩
theorem bi.au5 {m:du} {cs:List Value} {f:List Nat} (h:bi M w (.ee m t) cs (some (l,c)) f):∃b bG L,cs=[.map (some b)]/\f=[]/\M m b/\gT M w t b l c bG L:=by obtain⟨b,bG,L,J,R,ae,aa,aI,aX,bI⟩:=h;exact⟨b,bG,L,J,R,aa,ae,pO.1 aI,aX,bI⟩
def fX (w:World) (b:Nat) (bG:Array MapEntry) (c:Nat):World:={w with heap:=w.heap.setIfInBounds b (.map bG c)}
theorem p1 {es':Array MapEntry} {c':Nat} (h:w.heap[b]?=some (.map bG c)):(fX w b es' c').heap[b]?=some (.map es' c'):=by have:=(qa.1 h).1;simp[fX,this]
theorem HC {es':Array MapEntry} {c' k:Nat} (ac:k≠b):(fX w b es' c').heap[k]?=w.heap[k]?:=by simp only[fX];rw[Nj (fun e=>ac e.symm)]
theorem abf {es':Array MapEntry} {c':Nat}:(fX w b es' c').heap.size=w.heap.size:=by simp[fX]
theorem atK {es':Array MapEntry} {c':Nat} (h:w.heap[b]?=some (.map bG c)) (a:Addr):(fX w b es' c').cell? a=w.cell? a:=by
 by_cases e:a.block=b
 ·unfold World.cell?;rw[e,p1 h,h]
 ·exact World.cell?_of_block (HC e)
theorem atL {es':Array MapEntry} {c':Nat} (h:w.heap[b]?=some (.map bG c)) (a:Addr):(fX w b es' c').frozen? a=w.frozen? a:=by
 by_cases e:a.block=b
 ·unfold World.frozen?;rw[e,p1 h,h]
 ·exact World.frozen?_of_block (HC e)
theorem MO {es':Array MapEntry} {c' k:Nat} (ac:k≠b):c3 w (fX w b es' c') k:=.of_heap (HC ac)
theorem gT.update (h:gT M w t b l c bG L) {T K D:TypeId} {kd:IntKind} (bd:P.underlying T=some (.map K D)) (cn:P.underlying K=some (.int kd)) (k:Int) {y:t.den} {ds:List Value} (aN:ds.length=t.size) (aB:bi M w t ds y []):∃es' hW,(Instr.mapUpdate T (.map (some b)) (.int .i64 k) (cH t ds)).run P w=.ok () (fX w b es' (bif (eU l k).isSome then c else c+1))/\(∀{et:du->Nat->Prop},(∀m k,M m k->et m k/\k≠b)->gT et (fX w b es' (bif (eU l k).isSome then c else c+1)) t b (jg l k y) (bif (eU l k).isSome then c else c+1) es' hW)/\lO w (fX w b es' (bif (eU l k).isSome then c else c+1)) b:=by
 have xx:∀{et:du->Nat->Prop} {es':Array MapEntry} {c':Nat},(∀m k,M m k->et m k/\k≠b)->∀{ds:List Value} {y:t.den},bi M w t ds y []->bi et (fX w b es' c') t ds y []:=
  fun bC _ _ hr=>hr.mono (fun m k ac=>⟨(bC m k ac).1,MO (bC m k ac).2⟩) (by simp)
 obtain⟨xw,K3⟩:=h.sc.put k y;rcases h.find (P:=P) cn k with⟨J,R,ae⟩|⟨i,s,g4,w7,J,R,ae,aI,aX,bI⟩
 ·rw[J] at xw|-;have ac:k∉L.map (·.1):=fun ax=>(by obtain⟨q,ai,e⟩:=dj.1 ax;exact R q ai e);simp only[Option.isSome_none,cond_false] at xw|-;have aC:(AF L k y c).1=L++[(k,c,y)]:=(by unfold AF;rw[if_neg ac]);rw[aC] at xw;refine⟨bG.push ⟨.int .i64 k,cH t ds,c⟩,L++[(k,c,y)],?_,fun bC=>⟨xw,p1 h.h,by simp[h.n],fun j q al=>?_⟩,?_⟩
  ·simp only[Instr.mapUpdate,Sem.run_bind,run_underlying bd,Result.andThen_ok,run_getObj_map h.h,qV cn,ae];exact tT h.h
  ·rcases ch j L.length with ah|ah
   ·rw[sL ah] at al;obtain⟨iu,cJ,cz,cX⟩:=h.e j q al;exact⟨iu,cJ,by rw[DW,if_neg (by rw[h.n];omega)];exact cz,xx bC cX⟩
   ·rw[uo ah] at al;have Lc:j-L.length=0:=by
     have:=(e9.1 al).1;simp at this;omega
    rw[Lc] at al;simp only[ld,cI] at al;subst al;exact⟨ds,aN,by rw[DW,if_pos (by rw[h.n];omega)],xx bC aB⟩
  ·intro Ft jU ao;rw[pO.2 h.h] at ao;cases ao;refine⟨_,_,pO.2 (p1 h.h),Nat.le_succ _,fun j e aE aa=>?_⟩;rw[DW] at aE;split at aE
   ·cases aE;exact absurd aa (Nat.lt_irrefl _)
   ·exact⟨j,e,aE,rfl,rfl⟩
 ·rw[J] at xw|-;have ac:k∈L.map (·.1):=dj.2 ⟨_,nQ R,rfl⟩;simp only[Iq,cond_true] at xw|-;have aC:(AF L k y c).1=L.map fun q=>if q.1=k then(k,q.2.1,y) else q:=by unfold AF;rw[if_pos ac]
  rw[aC] at xw;have amu:∀(j:Nat) (q:Int×Nat×t.den),L[j]?=some q->q.1=k->j=i:=fun j q al e=>(by have eh:=h.sc.Dh;have kX:j<(L.map (·.1)).length:=(by have:=(e9.1 al).1;simpa using this);have:=List.getElem?_inj kX eh (i:=j) (j:=i);apply this.1;rw[f5,f5,al,R];simp[e]);refine⟨bG.modify i fun e=>{e with key:=.int .i64 k,val:=cH t ds},L.map fun q=>if q.1=k then(k,q.2.1,y) else q,?_,fun bC=>⟨xw,p1 h.h,by simp[h.n],fun j q al=>?_⟩,?_⟩
  ·have CC:(Instr.keyThatStays (((bG[i]?).map (·.key)).getD (.int .i64 k)) (.int .i64 k)).run P w=.ok (.int .i64 k) w:=by
    rw[aI];simp[Instr.keyThatStays,Instr.sameBits]
   simp only[Instr.mapUpdate,Sem.run_bind,run_underlying bd,Result.andThen_ok,run_getObj_map h.h,qV cn,bI,CC];exact tT h.h
  ·rw[f5] at al;obtain⟨lG,iP,rfl⟩:=eM.1 al;by_cases e:lG.1=k
   ·obtain rfl:=amu j lG iP e;rw[R] at iP;cases iP;simp only[if_true];exact⟨ds,aN,by rw[wu,if_pos rfl,aI];rfl,xx bC aB⟩
   ·rw[if_neg e];obtain⟨iu,cJ,cz,cX⟩:=h.e j lG iP;refine⟨iu,cJ,?_,xx bC cX⟩;rw[wu,if_neg,cz];rintro rfl;rw[R] at iP;cases iP;exact e rfl
  ·intro Ft jU ao;rw[pO.2 h.h] at ao;cases ao;refine⟨_,_,pO.2 (p1 h.h),bS _,fun j e aE aa=>?_⟩;rw[wu] at aE;split at aE
   ·rename_i ep;subst ep;rw[aI] at aE;simp only[g6,cI] at aE;subst aE;exact⟨i,_,aI,rfl,rfl⟩
   ·exact⟨j,e,aE,rfl,rfl⟩
theorem gT.delete (h:gT M w t b l c bG L) {T K D:TypeId} {kd:IntKind} (bd:P.underlying T=some (.map K D)) (cn:P.underlying K=some (.int kd)) (k:Int) (ty:TypeId) (sR:TypeId):∃es' hW,(Builtin.delete_ #[T,sR] ty #[.map (some b),.int .i64 k]).run P w=.ok (.tuple #[]) (fX w b es' c)/\(∀{et:du->Nat->Prop},(∀m k,M m k->et m k/\k≠b)->gT et (fX w b es' c) t b (jO l k) c es' hW)/\lO w (fX w b es' c) b:=by
 have xx:∀{et:du->Nat->Prop} {es':Array MapEntry} {c':Nat},(∀m k,M m k->et m k/\k≠b)->∀{ds:List Value} {y:t.den},bi M w t ds y []->bi et (fX w b es' c') t ds y []:=
  fun bC _ _ hr=>hr.mono (fun m k ac=>⟨(bC m k ac).1,MO (bC m k ac).2⟩) (by simp)
 rcases h.find (P:=P) cn k with⟨J,R,ae⟩|⟨i,s,g4,w7,J,R,ae,aI,aX,bI⟩
 ·have aC:jO l k=l:=by
   unfold jO;rw[qh];intro q ai;simp only[decide_eq_true_eq];rintro rfl;exact YE J q.2 ai
  refine⟨bG,L,?_,fun bC=>⟨by rw[aC];exact h.sc,p1 h.h,h.n,fun j q al=>?_⟩,?_⟩
  ·simp only[Builtin.delete_,Sem.run_bind,run_underlying bd,Result.andThen_ok,run_getObj_map h.h,qV cn,ae,List.getElem?_toArray,ld,uq];rw[tT h.h];rfl
  ·obtain⟨iu,cJ,cz,cX⟩:=h.e j q al;exact⟨iu,cJ,cz,xx bC cX⟩
  ·intro Ft jU ao;rw[pO.2 h.h] at ao;cases ao;exact⟨_,_,pO.2 (p1 h.h),bS _,fun j e aE _=>⟨j,e,aE,rfl,rfl⟩⟩
 ·have aV:L.eraseIdx i=L.filter fun q=>decide (q.1≠k):=VV (·.1) h.sc.Dh R rfl;refine⟨bG.eraseIdxIfInBounds i,L.eraseIdx i,?_,fun bC=>⟨by rw[aV];exact h.sc.del k,p1 h.h,?_,fun j q al=>?_⟩,?_⟩
  ·simp only[Builtin.delete_,Sem.run_bind,run_underlying bd,Result.andThen_ok,run_getObj_map h.h,qV cn,bI,List.getElem?_toArray,ld,uq];rw[tT h.h];rfl
  ·have hi:i<bG.size:=(qa.1 aI).1;have j4:i<L.length:=(e9.1 R).1;rw[Array.eraseIdxIfInBounds,dif_pos hi,Array.size_eraseIdx,List.length_eraseIdx,if_pos j4,h.n]
  ·have hi:i<bG.size:=(qa.1 aI).1;rw[List.getElem?_eraseIdx] at al;rw[Array.eraseIdxIfInBounds,dif_pos hi];split at al
   ·rename_i cg;obtain⟨iu,cJ,cz,cX⟩:=h.e j q al;exact⟨iu,cJ,by rw[Array.getElem?_eraseIdx,if_pos cg];exact cz,xx bC cX⟩
   ·rename_i cg;obtain⟨iu,cJ,cz,cX⟩:=h.e (j+1) q al;exact⟨iu,cJ,by rw[Array.getElem?_eraseIdx,if_neg cg];exact cz,xx bC cX⟩
  ·intro Ft jU ao;rw[pO.2 h.h] at ao;cases ao;refine⟨_,_,pO.2 (p1 h.h),bS _,fun j e aE _=>?_⟩;have hi:i<bG.size:=(qa.1 aI).1;rw[Array.eraseIdxIfInBounds,dif_pos hi,Array.getElem?_eraseIdx] at aE;split at aE
   ·exact⟨j,e,aE,rfl,rfl⟩
   ·exact⟨j+1,e,aE,rfl,rfl⟩
end
end
section
section
variable {E:eI} {C:dZ} {st:ba} {a:Act} {w:World} {I:Nat->Prop} {rt:Nat->List Value} {fp:Nat->List Nat} {o:Oper} {Q:aw->List (Nat×a1)->Prop}
def mb (tt:List (TypeId×aq)) (T:TypeId):Option aq:=match az tt T with|some (.mp t)=>some t|some (.ee _ t)=>some t|_=>none
theorem mb.ok {T:TypeId} {t:aq} (h:mb E.tt T=some t):∃K S,E.P.underlying T=some (.map K S)/\E.P.underlying K=some (.int .i64)/\ei E.P t S:=by
 unfold mb at h;split at h
 ·rename_i u ah;cases h;obtain⟨i,K,S,_,_,_,_,aX,bI,eO⟩:=E.ok T _ ah;exact⟨K,S,aX,bI,eO⟩
 ·rename_i m u ah;cases h;obtain⟨i,K,S,_,_,_,_,aX,bI,eO⟩:=E.ok T _ ah;exact⟨K,S,aX,bI,eO⟩
 ·cases h
def Dd (tt:List (TypeId×aq)) (an:List (Nat×aq)) (h:List (Nat×a1)) (d:Nat) (T:TypeId):hY:=
 match mb tt T,az an d,az h d with
 |some u,some (.mp t),none=>bif bF u t then .d2 (.ref d []) [(d,⟨.mp t,some ([],0)⟩)] else .bad
 |_,_,_=>.bad
theorem aoO (ar:cc C st a.tmps w I rt fp) {an:List (Nat×aq)} {d:Nat} {T:TypeId} (aH:o.op=.makeMap T none) (h:(Dd E.tt an st.h d T).K Q):Yields E C st a w I rt fp o Q:=by
 unfold Dd at h;split at h
 case h_2=>exact h.elim
 rename_i u t bd nu aN;cases aa:bF u t with
 |false=>rw[aa] at h;exact h.elim
 |true=>
 rw[aa] at h;have ax:(w.alloc (.map #[] 0)).heap[w.heap.size]?=some (.map #[] 0):=(by show(w.heap.push _)[w.heap.size]?=_;rw[DW,if_pos rfl]);refine⟨.map (some w.heap.size),w.alloc (.map #[] 0),I,fun _=>[.map (some w.heap.size)],fun _=>[w.heap.size],.ref d [],[(d,⟨.mp t,some ([],0)⟩)],?_,.alloc w _,fun _ h=>h,fun _ h=>.inl h,.one aN (bi.Y0 (gT.empty _ _ ax)) (by simp) (fun b aa=>?_),?_,h⟩
 ·simp[execOp,aH,Instr.makeMap,newObj,Sem.run]
 ·simp only[fv] at aa;subst aa;exact⟨bS _,by simp,fun h=>by have:=ar.ib _ (.inl h);omega⟩
 ·have ah:az ([(d,(⟨.mp t,some ([],0)⟩:a1))]++st.h) d=some ⟨.mp t,some ([],0)⟩:=(by rw[Im,db,if_pos rfl]);refine .ref (t:=⟨.mp t,some ([],0)⟩) (τ':=.mp t) (loc:=none) (cs:=[.map (some w.heap.size)]) ah ?_;have:d9 [(d,(⟨.mp t,some ([],0)⟩:a1))] (fun _=>[Value.map (some w.heap.size)]) rt d=[.map (some w.heap.size)]:=(by simp[d9,db]);rw[this];exact bk.here
def LS (t:aq) (m:Option (List (Int×t.den)×Nat)) (z:t.den) (k:Int):Bool->aw
 |true=>.d3 [.val t ((k2 m k).getD z),.val .bool (k2 m k).isSome]
 |false=>.val t ((k2 m k).getD z)
def Av (tt:List (TypeId×aq)) (h:List (Nat×a1)) (T:TypeId) (x k:aw) (ok:Bool):hY:=
 match mb tt T,k with
 |some u,.val (.int .i64) k=>match x with
  |.val (.ee m t) fW=>match nL t with
   |some z=>bif bF u t then .d2 (LS t fW z k ok) [] else .bad
   |none=>.bad
  |.ref id p=>match az h id with
   |some b5=>match el b5.1 p with
    |some (.mp t)=>match nL t with
     |some z=>bif bF u t then .part (Option (List (Int×t.den)×Nat)) (fun fW=>dr b5.1 b5.2 p (.mp t) fW) (fun fW=>(LS t fW z k ok,[])) else .bad
     |none=>.bad
    |_=>.bad
   |none=>.bad
  |_=>.bad
 |_,_=>.bad
theorem Yy {T K S:TypeId} {t:aq} (bd:E.P.underlying T=some (.map K S)) (cn:E.P.underlying K=some (.int .i64)) (bB:ei E.P t S) {x k:Operand} {ok:Bool} (aH:o.op=.lookup T x k ok) {n:Int} (ac:a.eval k=.int .i64 n) {z:t.den} (aZ:nL t=some z) {m:Option (List (Int×t.den)×Nat)} (ab:(m=none/\a.eval x=.map none)\/∃b l c bG L,m=some (l,c)/\a.eval x=.map (some b)/\gT (bK I C.B) w t b l c bG L):∃v,(execOp a.eval o).run E.P w=.ok (.value v) w/\∀h:List (Nat×a1),cw (bK I C.B) w h rt fp (LS t m z n ok) v:=by
 obtain⟨i,il,aK,aL,a8,bH⟩:=Bp bB aZ;have CS:(zeroValue S).run E.P w=.ok il w:=(by simp[zeroValue,typeInfo,aK,aL]);have key:∃cs,bi (bK I C.B) w t cs ((k2 m n).getD z) []/\(Instr.lookup T (a.eval x) (.int .i64 n) ok).run E.P w=.ok (if ok then .tuple #[cH t cs,.bool (k2 m n).isSome] else cH t cs) w:=by
  rcases ab with⟨rfl,ab⟩|⟨b,l,c,bG,L,rfl,ab,bC⟩
  ·refine⟨il.cells.toList,by simpa[k2] using bH _ _,?_⟩;rw[ab];have aF:(Instr.findKey K (.int .i64 n) []).run E.P w=.ok none w:=Sz cn rfl;simp only[Instr.lookup,Sem.run_bind,run_underlying bd,Result.andThen_ok,Sem.run_pure,qV cn,aF,CS];rw[<-a8];cases ok<;>rfl
  ·rw[ab];rcases bC.find (P:=E.P) cn n with⟨J,_,ae⟩|⟨kB,s,y,ds,J,_,aI,aX,bI,eO⟩
   ·refine⟨il.cells.toList,by simpa[k2,J] using bH _ _,?_⟩;simp only[Instr.lookup,Sem.run_bind,run_underlying bd,Result.andThen_ok,Sem.run_pure,run_getObj_map bC.h,qV cn,ae,CS];rw[<-a8];simp only[k2,br,J,Option.isSome_none]
   ·refine⟨ds,by simpa[k2,J] using bI,?_⟩;simp only[Instr.lookup,Sem.run_bind,run_underlying bd,Result.andThen_ok,Sem.run_pure,run_getObj_map bC.h,qV cn,eO];simp only[k2,br,J,Iq]
 obtain⟨cs,hr,eA⟩:=key;refine⟨_,by simp only[execOp,aH,ac,Sem.run_bind,eA];rfl,fun h=>?_⟩;cases ok with
 |false=>exact .val hr
 |true=>
  refine .d3 (by simp) (fun i av v J R=>?_)
  match i with
  |0=>simp at J R;subst J;subst R;exact .val hr
  |1=>simp at J R;subst J;subst R;exact .bool _
  |n+2=>simp at J
theorem bi.Rd {M:du->Nat->Prop} {t:aq} {cs:List Value} {m:Option (List (Int×t.den)×Nat)} {f:List Nat} (h:bi M w (.mp t) cs m f):(m=none/\cs=[.map none]/\f=[])\/∃b l c bG L,m=some (l,c)/\cs=[.map (some b)]/\f=[b]/\gT M w t b l c bG L:=by
 cases m with
 |none=>exact .inl ⟨rfl,h.2,h.1⟩
 |some q=>
  obtain⟨l,c⟩:=q;obtain⟨b,bG,L,J,R,ae⟩:=h.YZ;exact .inr ⟨b,l,c,bG,L,rfl,J,R,ae⟩
theorem bi.ab3 {M:du->Nat->Prop} {t:aq} {aoA:du} {cs:List Value} {m:Option (List (Int×t.den)×Nat)} {f:List Nat} (h:bi M w (.ee aoA t) cs m f):(m=none/\cs=[.map none])\/∃b l c bG L,m=some (l,c)/\cs=[.map (some b)]/\gT M w t b l c bG L:=by
 cases m with
 |none=>exact .inl ⟨rfl,h.2⟩
 |some q=>
  obtain⟨l,c⟩:=q;obtain⟨b,bG,L,J,_,_,ae⟩:=h.au5;exact .inr ⟨b,l,c,bG,L,rfl,J,ae⟩
theorem anO (ar:cc C st a.tmps w I rt fp) {T:TypeId} {x k:Operand} {ok:Bool} (aH:o.op=.lookup T x k ok) (h:(Av E.tt st.h T (bj st.g x) (bj st.g k) ok).K Q):Yields E C st a w I rt fp o Q:=by
 have ab:=ar.bj x;have ac:=ar.bj k;unfold Av at h;split at h
 case h_2=>exact h.elim
 rename_i u n bd s1;obtain⟨K,S,t1,t2,t3⟩:=mb.ok bd;rw[s1] at ac;generalize xq:a.eval k=QI at ac;cases ac with|val AY=>
 obtain⟨_,rfl⟩:=AY;split at h
 ·rename_i m t fW ex;split at h
  case h_2=>exact h.elim
  rename_i z aZ;cases aa:bF u t with
  |false=>rw[aa] at h;exact h.elim
  |true=>
  rw[aa] at h;rw[ex] at ab;generalize ix:a.eval x=DO at ab;cases ab with|val r=>
  obtain⟨v,bX,bn⟩:=Yy (rt:=rt) (fp:=fp) (I:=I) (C:=C) (E:=E) (w:=w) (a:=a) (m:=fW) t1 t2 (t3.lay aa) aH xq aZ (by
   rcases r.ab3 with⟨aC,aV⟩|⟨b,l,c,bG,L,aC,aV,b4⟩
   ·exact .inl ⟨aC,by rw[ix,aV];rfl⟩
   ·exact .inr ⟨b,l,c,bG,L,aC,by rw[ix,aV];rfl,b4⟩)
  exact .pure bX (bn _) h
 ·rename_i id p ex;split at h
  case h_2=>exact h.elim
  rename_i b5 af;split at h
  case h_2=>exact h.elim
  rename_i t fB;split at h
  case h_2=>exact h.elim
  rename_i z aZ;cases aa:bF u t with
  |false=>rw[aa] at h;exact h.elim
  |true=>
  rw[aa] at h;obtain⟨fW,aD,h⟩:=h;rw[ex] at ab;generalize ix:a.eval x=DO at ab;cases ab with|ref bx ag=>
  rw[af] at bx;cases bx;obtain⟨rfl,f,hr,_⟩:=ar.l3 af aD ag;obtain⟨v,bX,bn⟩:=Yy (rt:=rt) (fp:=fp) (I:=I) (C:=C) (E:=E) (w:=w) (a:=a) (m:=fW) t1 t2 (t3.lay aa) aH xq aZ (by
   rcases hr.Rd with⟨aC,aV,_⟩|⟨b,l,c,bG,L,aC,aV,_,b4⟩
   ·exact .inl ⟨aC,by rw[ix,aV];rfl⟩
   ·exact .inr ⟨b,l,c,bG,L,aC,by rw[ix,aV];rfl,b4⟩)
  exact .pure bX (bn _) h
 ·exact h.elim
def AD (tt:List (TypeId×aq)) (h:List (Nat×a1)) (T:TypeId) (x:aw):hY:=
 match mb tt T with
 |none=>.bad
 |some _=>match x with
  |.val (.ee _ t) fW=>.d2 (.val (.int .i64) (C8 (α:=t.den) fW)) []
  |.ref id p=>match az h id with
   |some b5=>match el b5.1 p with
    |some (.mp t)=>.part (Option (List (Int×t.den)×Nat)) (fun fW=>dr b5.1 b5.2 p (.mp t) fW) (fun fW=>(.val (.int .i64) (C8 fW),[]))
    |_=>.bad
   |none=>.bad
  |_=>.bad
theorem YW {T K S:TypeId} {t:aq} (bd:E.P.underlying T=some (.map K S)) {x:Operand} (aH:o.op=.call {callee:=.builtin .len,args:=#[x],argTypes:=#[T]}) {m:Option (List (Int×t.den)×Nat)} (ab:(m=none/\a.eval x=.map none)\/∃b l c bG L,m=some (l,c)/\a.eval x=.map (some b)/\gT (bK I C.B) w t b l c bG L):(execOp a.eval o).run E.P w=.ok (.value (.int .i64 (C8 m))) w:=by
 rcases ab with⟨rfl,ab⟩|⟨b,l,c,bG,L,rfl,ab,bC⟩
 ·simp[execOp,aH,resolve,invoke,builtin,ab,Builtin.len_,run_underlying bd,goInt,C8]
 ·have J:bG.size=l.length:=(by rw[bC.n,bC.sc.len]);simp only[execOp,aH,resolve,invoke,builtin,Sem.run_bind,Sem.run_pure,Result.andThen_ok,Eb,eY,List.map_nil,ab,Builtin.len_,List.getElem?_toArray,ld,run_underlying bd,run_getObj_map bC.h,goInt,C8,J]
theorem aoQ (ar:cc C st a.tmps w I rt fp) {T:TypeId} {x:Operand} (aH:o.op=.call {callee:=.builtin .len,args:=#[x],argTypes:=#[T]}) (h:(AD E.tt st.h T (bj st.g x)).K Q):Yields E C st a w I rt fp o Q:=by
 have ab:=ar.bj x;unfold AD at h;split at h
 ·exact h.elim
 rename_i u bd;obtain⟨K,S,t1,t2,t3⟩:=mb.ok bd;generalize ix:a.eval x=DO at ab;split at h
 ·rename_i m t fW ex;rw[ex] at ab;cases ab with|val r=>
  refine .pure (YW (I:=I) (C:=C) (m:=fW) t1 aH ?_) (.int _ _) h;rcases r.ab3 with⟨aC,aV⟩|⟨b,l,c,bG,L,aC,aV,b4⟩
  ·exact .inl ⟨aC,by rw[ix,aV];rfl⟩
  ·exact .inr ⟨b,l,c,bG,L,aC,by rw[ix,aV];rfl,b4⟩
 ·rename_i id p ex;split at h
  case h_2=>exact h.elim
  rename_i b5 af;split at h
  case h_2=>exact h.elim
  rename_i t fB;obtain⟨fW,aD,h⟩:=h;rw[ex] at ab;cases ab with|ref bx ag=>
  rw[af] at bx;cases bx;obtain⟨rfl,f,hr,_⟩:=ar.l3 af aD ag;refine .pure (YW (I:=I) (C:=C) (m:=fW) t1 aH ?_) (.int _ _) h;rcases hr.Rd with⟨aC,aV,_⟩|⟨b,l,c,bG,L,aC,aV,_,b4⟩
  ·exact .inl ⟨aC,by rw[ix,aV];rfl⟩
  ·exact .inr ⟨b,l,c,bG,L,aC,by rw[ix,aV];rfl,b4⟩
 ·exact h.elim
end
end
section
section
variable {E:eI} {C:dZ} {st:ba} {a:Act} {w:World} {I:Nat->Prop} {rt:Nat->List Value} {fp:Nat->List Nat} {o:Oper} {Q:aw->List (Nat×a1)->Prop}
def Mn (c x y:aw):hY:=
 match c with
 |.val .bool c=>.part Bool (fun b=>c=b) (fun b=>(match b with|true=>x|false=>y,[]))
 |_=>.bad
theorem ar2 (ar:cc C st a.tmps w I rt fp) {c x y:Operand} (aH:o.op=.pick c x y) (h:(Mn (bj st.g c) (bj st.g x) (bj st.g y)).K Q):Yields E C st a w I rt fp o Q:=by
 have hc:=ar.bj c;unfold Mn at h;split at h
 case h_2=>exact h.elim
 rename_i b OF;obtain⟨b,rfl,h⟩:=h;rw[OF] at hc;generalize hv:a.eval c=v at hc;cases hc with|val r=>
 obtain⟨_,rfl⟩:=r;cases b
 ·exact .pure (v:=a.eval y) (by simp[execOp,aH,hv,cH,asBool]) (ar.bj y) h
 ·exact .pure (v:=a.eval x) (by simp[execOp,aH,hv,cH,asBool]) (ar.bj x) h
def S7 (op:UnOp) (x:aw):hY:=
 match op,x with
 |.neg,.val (.int k) x=>.part Int (fun z=>k.wrap (0-x)=z) (fun z=>(.val (.int k) z,[]))
 |.xor,.val (.int k) x=>.part Int (fun z=>k.wrap (BitVec.ofInt k.bits (if k.signed then-1 else k.max)^^^BitVec.ofInt k.bits x).toNat=z) (fun z=>(.val (.int k) z,[]))
 |.not,.val .bool b=>.d2 (.val .bool (!b)) []
 |_,_=>.bad
theorem auI (ar:cc C st a.tmps w I rt fp) {op:UnOp} {T:TypeId} {x:Operand} (aH:o.op=.unOp op T x) (h:(S7 op (bj st.g x)).K Q):Yields E C st a w I rt fp o Q:=by
 have ab:=ar.bj x;unfold S7 at h;generalize hv:a.eval x=v at ab;split at h
 ·rename_i k n ex;obtain⟨z,rfl,h⟩:=h;rw[ex] at ab;cases ab with|val r=>
  obtain⟨_,rfl⟩:=r;exact .pure (v:=.int k _) (by simp only[execOp,aH,hv,cH,Op.unary,Op.intArith];rfl) (.int k _) h
 ·rename_i k n ex;obtain⟨z,rfl,h⟩:=h;rw[ex] at ab;cases ab with|val r=>
  obtain⟨_,rfl⟩:=r;exact .pure (v:=.int k _) (by simp only[execOp,aH,hv,cH,Op.unary,Op.intBits];rfl) (.int k _) h
 ·rename_i b ex;rw[ex] at ab;cases ab with|val r=>
  obtain⟨_,rfl⟩:=r;exact .pure (v:=.bool _) (by simp only[execOp,aH,hv,cH,Op.unary];rfl) (.bool _) h
 ·exact h.elim
def I1 (tt:List (TypeId×aq)) (s d:TypeId) (x:aw):hY:=
 match az tt s,az tt d,x with
 |some (.int _),some (.int k),.val (.int _) x=>.part Int (fun z=>k.wrap x=z) (fun z=>(.val (.int k) z,[]))
 |_,_,_=>.bad
theorem ahK (ar:cc C st a.tmps w I rt fp) {s d:TypeId} {x:Operand} (aH:o.op=.convert s d x) (h:(I1 E.tt s d (bj st.g x)).K Q):Yields E C st a w I rt fp o Q:=by
 have ab:=ar.bj x;unfold I1 at h;split at h
 case h_2=>exact h.elim
 rename_i bu bE cl n J R ex;obtain⟨z,rfl,h⟩:=h;generalize hv:a.eval x=v at ab;rw[ex] at ab;cases ab with|val r=>
 obtain⟨_,rfl⟩:=r;obtain⟨_,_,_,_,_,p3⟩:=E.ok s _ J;obtain⟨_,_,_,_,_,gg⟩:=E.ok d _ R;exact .pure (v:=.int bE _) (by simp[execOp,aH,hv,cH,convert,run_underlying p3,run_underlying gg,Conv.intToInt]) (.int bE _) h
def t6 (s:ByteArray) (n:Int):Option Int:=if 0<=n then(s[n.toNat]?).map fun b=>(b.toNat:Int) else none
def LQ:ByteArray:=⟨#[0,1,2,2,3,3,3,3,4,4,4,4,4,4,4,4,5,5,5,5,5,5,5,5,5,5,5,5,5,5,5,5,6,6,6,6,6,6,6,6,6,6,6,6,6,6,6,6,6,6,6,6,6,6,6,6,6,6,6,6,6,6,6,6,7,7,7,7,7,7,7,7,7,7,7,7,7,7,7,7,7,7,7,7,7,7,7,7,7,7,7,7,7,7,7,7,7,7,7,7,7,7,7,7,7,7,7,7,7,7,7,7,7,7,7,7,7,7,7,7,7,7,7,7,7,7,7,7,8,8,8,8,8,8,8,8,8,8,8,8,8,8,8,8,8,8,8,8,8,8,8,8,8,8,8,8,8,8,8,8,8,8,8,8,8,8,8,8,8,8,8,8,8,8,8,8,8,8,8,8,8,8,8,8,8,8,8,8,8,8,8,8,8,8,8,8,8,8,8,8,8,8,8,8,8,8,8,8,8,8,8,8,8,8,8,8,8,8,8,8,8,8,8,8,8,8,8,8,8,8,8,8,8,8,8,8,8,8,8,8,8,8,8,8,8,8,8,8,8,8,8,8,8,8,8,8]⟩
def MU (tt:List (TypeId×aq)) (T:TypeId) (x i:aw):hY:=
 match az tt T,x,i with
 |some .str,.c5 (.string s),.val (.int _) n=>.part Int (fun b=>t6 s n=some b) (fun b=>(.val (.int .u8) b,[]))
 |some .str,.val .str s,.val (.int _) n=>.part Int (fun b=>t6 s n=some b) (fun b=>(.val (.int .u8) b,[]))
 |_,_,_=>.bad
theorem aub (ar:cc C st a.tmps w I rt fp) {T:TypeId} {x i:Operand} (aH:o.op=.index T x i) (h:(MU E.tt T (bj st.g x) (bj st.g i)).K Q):Yields E C st a w I rt fp o Q:=by
 have ab:=ar.bj x;have hi:=ar.bj i;have fP:∀(s:ByteArray) (k:IntKind) (n b:Int),az E.tt T=some .str->a.eval x=.string s->a.eval i=.int k n->t6 s n=some b->Q (.val (.int .u8) b) []->Yields E C st a w I rt fp o Q:=by
  intro s k n b bd ex hm aa ai;obtain⟨_,_,_,_,_,u⟩:=E.ok T _ bd;refine .pure (v:=.int .u8 b) ?_ (.int .u8 b) ai;unfold t6 at aa;split at aa
  case isFalse=>cases aa
  rename_i aU;obtain⟨c,hc,rfl⟩:=eM.1 aa;simp[execOp,aH,Instr.index,ex,hm,asIntOf,run_underlying u,aU,hc]
 unfold MU at h;split at h
 ·rename_i s k n bd ex hm;obtain⟨b,aa,ai⟩:=h;rw[ex] at ab;rw[hm] at hi;generalize hv:a.eval x=v at ab;generalize aQ:a.eval i=u at hi;cases ab;cases hi with|val r=>
  obtain⟨_,rfl⟩:=r;exact fP s k n b bd hv aQ aa ai
 ·rename_i s k n bd ex hm;obtain⟨b,aa,ai⟩:=h;rw[ex] at ab;rw[hm] at hi;generalize hv:a.eval x=v at ab;generalize aQ:a.eval i=u at hi;cases ab with|val bX=>
  obtain⟨_,rfl⟩:=bX;cases hi with|val r=>
  obtain⟨_,rfl⟩:=r;exact fP s k n b bd hv aQ aa ai
 ·exact h.elim
def KA (x:aw) (n:Nat):hY:=
 match x with
 |.d3 l=>match l[n]? with
  |some av=>.d2 av []
  |none=>.bad
 |_=>.bad
theorem ajq (ar:cc C st a.tmps w I rt fp) {x:Operand} {n:Nat} (aH:o.op=.extract x n) (h:(KA (bj st.g x) n).K Q):Yields E C st a w I rt fp o Q:=by
 have ab:=ar.bj x;unfold KA at h;generalize hv:a.eval x=v at ab;split at h
 case h_2=>exact h.elim
 rename_i l ex;split at h
 case h_2=>exact h.elim
 rename_i av ah;rw[ex] at ab;cases ab with|d3 xu ax=>
 rename_i vs;have ag:n<vs.size:=(by have:=(e9.1 ah).1;omega);have:vs[n]?=some vs[n]:=DV ag;exact .pure (v:=vs[n]) (by simp[execOp,aH,hv,Instr.extract,this]) (ax n av _ ah this) h
def De (mx:Bool) (x:aw):List aw->hY
 |[]=>.d2 x []
 |y::r=>match x,y with
  |.val (.int k) x,.val (.int cN) y=>if k=cN then(match mx with|true=>De mx (.val (.int k) (if y>x then y else x)) r|false=>De mx (.val (.int k) (if y<x then y else x)) r) else .bad
  |_,_=>.bad
theorem L1 (ar:cc C st a.tmps w I rt fp) (mx:Bool):∀(r:List Operand) (x:aw) (v:Value),cw (bK I C.B) w st.h rt fp x v->(De mx x (r.map (bj st.g))).K Q->∃ed av,((r.map a.eval).foldlM (match mx with|true=>Builtin.max2|false=>Builtin.min2) v).run E.P w=.ok ed w/\cw (bK I C.B) w st.h rt fp av ed/\Q av []
 |[],x,v,ab,h=>⟨v,x,rfl,ab,h⟩
 |y::r,x,v,ab,h=>by
  have aB:=ar.bj y;simp only[eY,De] at h;generalize hv:a.eval y=u at aB;split at h
  case h_2=>exact h.elim
  rename_i k m cN n i9;split at h
  case isFalse=>exact h.elim
  rename_i ac;subst ac;rw[i9] at aB;cases ab with|val bX=>cases aB with|val bn=>
  obtain⟨_,rfl⟩:=bX;obtain⟨_,rfl⟩:=bn;cases mx
  ·obtain⟨ed,av,aK,aL,a8⟩:=L1 ar false r _ _ (.int k _) h;refine⟨ed,av,?_,aL,a8⟩;simp only[eY,List.foldlM_cons,hv,Sem.run_bind];exact aK
  ·obtain⟨ed,av,aK,aL,a8⟩:=L1 ar true r _ _ (.int k _) h;refine⟨ed,av,?_,aL,a8⟩;simp only[eY,List.foldlM_cons,hv,Sem.run_bind];exact aK
def Qu:aw->Bool
 |.val _ _|.c5 _|.dQ _ _=>true
 |_=>false
def gr (tt:List (TypeId×aq)) (an:List (Nat×aq)) (h:List (Nat×a1)) (g:Operand->aw) (d:Nat) (op:Op):hY:=
 match op with
 |.move x=>.d2 (g x) []
 |.assign x=>bif Qu (g x) then .d2 (g x) [] else .bad
 |.pick c x y=>Mn (g c) (g x) (g y)
 |.alloc T=>BK tt an h d T
 |.box T x=>Ev tt h d T (g x)
 |.build T ps=>Eu tt g T ps.toList
 |.buildSlice T n ps=>BU tt an h g d T n ps.toList
 |.load T x=>Au tt h T (g x)
 |.nilCheck x=>AG h (g x)
 |.binOp op T x y _=>match g x,g y with
  |.val .bool p,.val .bool q=>match az tt T with
   |some .bool=>NP op (.val .bool p) (.val .bool q)
   |_=>.bad
  |.val (.int k) m,.val (.int cN) n=>nl op k m cN n
  |_,_=>.bad
 |.unOp op _ x=>S7 op (g x)
 |.convert s d x=>I1 tt s d (g x)
 |.makeSlice T l c=>AA tt an h d T (g l) (g c)
 |.slice T x lo hi none=>A6 tt h T (g x) (lo.map g) (hi.map g)
 |.fieldAddr T x n=>zN tt h T (g x) n
 |.field T x n=>Cn tt h T (g x) n
 |.indexAddr T x i=>Al tt h T (g x) (g i)
 |.index T x i=>MU tt T (g x) (g i)
 |.extract x n=>KA (g x) n
 |.call c=>match c.callee,c.args.toList,c.argTypes.toList with
  |.builtin .len,[x],[T]=>match fU tt T with
   |some _=>At tt h T (g x)
   |none=>AD tt h T (g x)
  |.builtin .max,x::r,_=>De true (g x) (r.map g)
  |.builtin .min,x::r,_=>De false (g x) (r.map g)
  |_,_,_=>.bad
 |.makeMap T none=>Dd tt an h d T
 |.lookup T x k ok=>Av tt h T (g x) (g k) ok
 |.makeFunc (.func f) fs cs=>bif fs.isEmpty then .d2 (.dQ f (cs.toList.map g)) [] else .bad
 |_=>.bad
theorem ai0 (ar:cc C st a.tmps w I rt fp) {an:List (Nat×aq)} {d:Nat} (h:(gr E.tt an st.h (bj st.g) d o.op).K Q):Yields E C st a w I rt fp o Q:=by
 unfold gr at h;split at h
 ·rename_i x aH;exact .pure (v:=a.eval x) (by simp[execOp,aH]) (ar.bj x) h
 ·rename_i x aH;cases aa:Qu (bj st.g x) with
  |false=>rw[aa] at h;exact h.elim
  |true=>rw[aa] at h;exact .pure (v:=a.eval x) (by simp[execOp,aH]) (ar.bj x) h
 ·rename_i aH;exact ar2 ar aH h
 ·rename_i aH;exact agf ar aH h
 ·rename_i aH;exact agW ar aH h
 ·rename_i aH;exact agP ar aH h
 ·rename_i aH;exact ag0 ar aH h
 ·rename_i aH;exact anL ar aH h
 ·rename_i aH;exact apj ar aH h
 ·rename_i op T x y u aH;split at h
  ·rename_i p q ex i9;split at h
   ·rename_i bd;refine UD ar aH (fun _ _ _ _=>?_) (by rw[ex,i9];exact h);exact(E.ok T _ bd).choose_spec.2.2.2.2
   ·exact h.elim
  ·rename_i ex i9;refine UD ar aH (fun p q _ ax=>?_) (by rw[ex,i9];exact h);rw[ex] at ax;cases ax.1
  ·exact h.elim
 ·rename_i aH;exact auI ar aH h
 ·rename_i aH;exact ahK ar aH h
 ·rename_i aH;exact aot ar aH h
 ·rename_i aH;exact atS ar aH h
 ·rename_i aH;exact ajF ar aH h
 ·rename_i aH;exact ajH ar aH h
 ·rename_i aH;exact amQ ar aH h
 ·rename_i aH;exact aub ar aH h
 ·rename_i aH;exact ajq ar aH h
 ·rename_i c aH;obtain⟨callee,args,argTypes⟩:=c;simp only at h;split at h
  ·rename_i x T aC aV;have uQ:args=#[x]:=(by cases args;simp_all);have Fk:argTypes=#[T]:=(by cases argTypes;simp_all);subst uQ;subst Fk;split at h
   ·exact anE ar aH h
   ·exact aoQ ar aH h
  ·rename_i x r aC;have uQ:args=(x::r).toArray:=(by cases args;simp_all);obtain⟨ed,av,aK,aL,a8⟩:=L1 (E:=E) ar true r _ _ (ar.bj x) h;refine .pure (v:=ed) ?_ aL a8;simp only[execOp,aH,resolve,invoke,builtin,Sem.run_bind,Sem.run_pure,Result.andThen_ok,uQ,Builtin.max_];simp only[Eb,eY,aK];rfl
  ·rename_i x r aC;have uQ:args=(x::r).toArray:=(by cases args;simp_all);obtain⟨ed,av,aK,aL,a8⟩:=L1 (E:=E) ar false r _ _ (ar.bj x) h;refine .pure (v:=ed) ?_ aL a8;simp only[execOp,aH,resolve,invoke,builtin,Sem.run_bind,Sem.run_pure,Result.andThen_ok,uQ,Builtin.min_];simp only[Eb,eY,aK];rfl
  ·exact h.elim
 ·rename_i aH;exact aoO ar aH h
 ·rename_i aH;exact anO ar aH h
 ·rename_i f fs cs aH;cases aE:fs.isEmpty with
  |false=>rw[aE] at h;exact h.elim
  |true=>
   rw[aE] at h;obtain rfl:fs=#[]:=(by simpa using aE);refine .pure (v:=.func (.func f) #[] (cs.map a.eval)) (by simp[execOp,aH,Instr.makeFunc]) (.dQ (by simp) (fun i x v J R=>?_)) h;rw[f5] at J;rw[Array.getElem?_map] at R;obtain⟨y,aB,rfl⟩:=eM.1 J;obtain⟨z,aZ,rfl⟩:=eM.1 R;obtain rfl:y=z:=(by simpa[aZ] using aB.symm);exact ar.bj y
 ·exact h.elim
end
end
def dJ (i:Nat) (S:List Nat):Bool:=S.any fun j=>Nat.beq j i
theorem eX {i:Nat} {S:List Nat}:dJ i S=true↔i∈S:=by
 simp only[dJ,sJ];constructor
 ·rintro⟨j,al,h⟩;rw[<-eZ h];exact al
 ·exact fun h=>⟨i,h,wG i⟩
def aw.er (S:List Nat) (a:aw):Bool:=a.ids.any fun i=>dJ i S
def A5:List bw->Option (List bw)
 |.unst::p=>(A5 p).map fun r=>.unst::r
 |.fst::_=>some [.snd]
 |.snd::_=>some [.fst]
 |_=>none
def v8:List bw->List bw->Option (List bw)
 |p,[]=>A5 p
 |.idx _::p,.idx _::q=>v8 p q
 |.deref::p,.deref::q=>v8 p q
 |.unst::p,.unst::q=>v8 p q
 |.fst::p,.fst::q=>v8 p q
 |.snd::p,.snd::q=>v8 p q
 |_,_=>none
def QE (p q:List bw):Bool:=gL p q||(v8 p q).isSome
theorem abm:∀{p r:List bw},A5 p=some r->gL p r=true
 |.unst::p,r,h=>by obtain⟨r',J,rfl⟩:=eM.1 h;exact abm (p:=p) J
 |.fst::_,_,h=>by cases h;rfl
 |.snd::_,_,h=>by cases h;rfl
 |[],_,h=>by cases h
 |.idx _::_,_,h=>by cases h
 |.deref::_,_,h=>by cases h
theorem abl:∀{q p r:List bw},v8 p q=some r->gL p (q++r)=true
 |[],p,r,h=>by have a2:A5 p=some r:=(by cases p<;>exact h);exact abm a2
 |s::q,p,r,h=>by
  cases p with
  |nil=>cases s<;>cases h
  |cons s' p=>cases s<;>cases s'<;>first|(cases h;done)|exact abl (q:=q) (p:=p) h
theorem abn:∀{p r:List bw} {τ nb:aq},el τ p=some nb->A5 p=some r->∃(f2:aq) (k:Nat),∀(w:World) (l:Loc) (cs:List Value),∃cd,bk w τ l cs r f2 (l.map fun q=>(q.1,q.2+k)) cd
 |.unst::p,r,τ,nb,af,h=>by
  obtain⟨r',J,rfl⟩:=eM.1 h;cases τ with
  |st t=>exact abn (p:=p) (τ:=t) af J
  |_=>cases af
 |.fst::p,r,τ,nb,af,h=>by
  cases h;cases τ with
  |pr a b=>exact⟨b,a.size,fun w l cs=>⟨_,bk.here⟩⟩
  |_=>cases af
 |.snd::p,r,τ,nb,af,h=>by
  cases h;cases τ with
  |pr a b=>
   refine⟨a,0,fun w l cs=>⟨cs.take a.size,?_⟩⟩;have:(l.map fun q=>(q.1,q.2+0))=l:=(by cases l<;>rfl);rw[this];exact bk.here
  |_=>cases af
 |[],_,_,_,_,h=>by cases h
 |.idx _::_,_,_,_,_,h=>by cases h
 |.deref::_,_,_,_,_,h=>by cases h
theorem DE {w:World}:∀{q p r:List bw} {τ nb:aq} {l:Loc} {cs:List Value} {gx:aq} {ha:Loc} {gq:List Value},el τ p=some nb->v8 p q=some r->bk w τ l cs q gx ha gq->∃vP,el gx vP=some nb/\A5 vP=some r
 |[],p,r,τ,nb,l,cs,gx,ha,gq,af,h,ag=>by obtain⟨rfl,_,_⟩:=bk.fH.1 ag;have a2:A5 p=some r:=(by cases p<;>exact h);exact⟨p,af,a2⟩
 |s::q,p,r,τ,nb,l,cs,gx,ha,gq,af,h,ag=>by
  cases p with
  |nil=>cases s<;>cases h
  |cons s' p=>
   cases τ<;>cases s<;>simp only[bk] at ag<;>cases s'<;>first|(cases h;done)|skip
   case osl.idx.idx=>obtain⟨_,_,_,_,_,_,_,_,_,ag⟩:=ag;exact DE (q:=q) (p:=p) af h ag
   case optr.deref.deref=>obtain⟨_,_,_,_,_,_,ag⟩:=ag;exact DE (q:=q) (p:=p) af h ag
   case st.unst.unst=>exact DE (q:=q) (p:=p) af h ag
   case pr.fst.fst=>exact DE (q:=q) (p:=p) af h ag
   case pr.snd.snd=>exact DE (q:=q) (p:=p) af h ag
theorem bk.split {w:World}:∀{q r:List bw} {τ f2:aq} {l l2:Loc} {cs cd:List Value},bk w τ l cs (q++r) f2 l2 cd->∃nM da c4,bk w τ l cs q nM da c4/\bk w nM da c4 r f2 l2 cd
 |[],r,τ,f2,l,l2,cs,cd,h=>⟨τ,l,cs,bk.here,h⟩
 |s::q,r,τ,f2,l,l2,cs,cd,h=>by
  rw[mz] at h;cases τ<;>cases s<;>simp only[bk] at h
  case osl.idx=>
   obtain⟨b,o,len,cap,ds,aC,aV,b4,fo,h⟩:=h;obtain⟨nM,da,c4,J,R⟩:=bk.split (q:=q) h;exact⟨nM,da,c4,⟨b,o,len,cap,ds,aC,aV,b4,fo,J⟩,R⟩
  case optr.deref=>
   obtain⟨b,o,ds,aC,aV,b4,h⟩:=h;obtain⟨nM,da,c4,J,R⟩:=bk.split (q:=q) h;exact⟨nM,da,c4,⟨b,o,ds,aC,aV,b4,J⟩,R⟩
  case st.unst=>exact bk.split (q:=q) h
  case pr.fst=>exact bk.split (q:=q) h
  case pr.snd=>exact bk.split (q:=q) h
theorem bk.upper {w w':World} {τ nb:aq} {cs:List Value} {p q r:List bw} (af:el τ p=some nb) (hs:v8 p q=some r) {gx:aq} {b o:Nat} {gq:List Value} (ag:bk w τ none cs q gx (some (b,o)) gq) (ac:∀(q:List bw) (gx:aq) (ha:Loc) (gq:List Value),gL p q=true->bk w τ none cs q gx ha gq->bk w' τ none cs q gx ha gq):∃ahN,bk w' τ none cs q gx (some (b,o)) ahN:=by
 obtain⟨vP,J,R⟩:=DE af hs ag;obtain⟨f2,k,ga⟩:=abn J R;obtain⟨cd,ae⟩:=ga w (some (b,o)) gq;obtain⟨nM,da,c4,aI,aX⟩:=bk.split (ac _ _ _ _ (abl hs) (ag.append ae));have aC:=aI.ty;rw[ag.ty] at aC;obtain rfl:=ff aC;obtain⟨i5,bI⟩:=ga w' da c4;obtain⟨_,aV,_⟩:=aX.jX bI;cases da with
 |none=>cases aV
 |some x=>
  obtain⟨cP,bL⟩:=x;simp only[g6,cI,gz] at aV;obtain⟨b4,fo⟩:=aV;obtain rfl:b=cP:=b4;obtain rfl:o=bL:=(by omega);exact⟨c4,aI⟩
def mZ (keep:List (Nat×List bw)):aw->Bool
 |.ref id []=>keep.any fun e=>Nat.beq e.1 id
 |.ref id q=>keep.any fun e=>Nat.beq e.1 id&&gL e.2 q
 |.addr id q=>keep.any fun e=>Nat.beq e.1 id&&QE e.2 q
 |.view id q _ _=>keep.any fun e=>Nat.beq e.1 id&&gL e.2 q
 |_=>false
def j6 (S:List Nat) (keep:List (Nat×List bw)):aw->Bool
 |.dQ _ l=>l.all fun a=>!(a.er S)||mZ keep a
 |.app id q _ _ own=>(own.all fun i=>!(dJ i S))&&keep.any fun e=>Nat.beq e.1 id&&lX e.2 q
 |a=>mZ keep a
def d1 (S:List Nat) (keep:List (Nat×List bw)) (a:aw):aw:=bif a.er S&&!(j6 S keep a) then .dead else a
def eT (S:List Nat) (keep:List (Nat×List bw)):aw->aw
 |.d3 l=>.d3 (l.map (d1 S keep))
 |a=>d1 S keep a
def kill (S:List Nat) (keep:List (Nat×List bw)) (g:List (Nat×aw)):List (Nat×aw):=g.map fun q=>(q.1,eT S keep q.2)
def del (S:List Nat) (h:List (Nat×a1)):List (Nat×a1):=h.filter fun q=>!(dJ q.1 S)
theorem LJ (q:List bw):gL [] q=false:=by cases q<;>simp[gL,rU]
def C0 (l:List Nat):List (Nat×List bw):=l.map fun i=>(i,[])
theorem rQ (S:List Nat) (keep:List (Nat×List bw)):∀(g:List (Nat×aw)) (k:Nat),gt (kill S keep g) k=eT S keep (gt g k)
 |[],k=>by simp[kill,gt,az,eT,d1,aw.er,aw.ids]
 |(k0,a)::g,k=>by
  show gt ((k0,eT S keep a)::kill S keep g) k=_;rw[jv,jv];split
  ·rfl
  ·exact rQ S keep g k
theorem m1 (S:List Nat):∀(h:List (Nat×a1)) (k:Nat),az (del S h) k=if k∈S then none else az h k
 |[],k=>by simp[del,az]
 |(k0,t)::h,k=>by
  have aT:=m1 S h k;simp only[del] at aT|-;rw[mA];cases ao:dJ k0 S with
  |true=>
   have:k0∈S:=eX.1 ao;simp only[lN,Bool.false_eq_true,if_false];rw[aT,db];by_cases e:k0=k
   ·subst e;rw[if_pos this,if_pos this]
   ·rw[if_neg e]
  |false=>
   have:k0∉S:=fun h=>(by rw[eX.2 h] at ao;cases ao);simp only[nN,if_true];rw[db,db,aT];by_cases e:k0=k
   ·subst e;rw[if_pos rfl,if_pos rfl,if_neg this]
   ·rw[if_neg e,if_neg e]
theorem Ta {S:List Nat} {a:aw} (h:a.er S=false):∀id∈a.ids,id∉S:=fun id bh bB=>by have:a.er S=true:=(by simp only[aw.er,sJ];exact⟨id,bh,eX.2 bB⟩);rw[h] at this;cases this
structure pj (C:dZ) (st:ba) (w w':World) (I I':Nat->Prop) (rt:Nat->List Value) (fp:Nat->List Nat) (S:List Nat) (CZ:List (Nat×List bw)) (new:List (Nat×a1)) (rtn:Nat->List Value) (fpn:Nat->List Nat):Prop where
 size:w.heap.size<=w'.heap.size
 os:w'.os=w.os
 tape:w'.tape=w.tape
 output:w'.output=w.output
 heap:∀b,b<w.heap.size->(∀id∈S,∀t,az st.h id=some t->b∉fp id)->w'.heap[b]?=w.heap[b]?
 evo:∀b,b<w.heap.size->lO w w' b
 i:∀b,I b->I' b
 i2:∀b,I' b->I b\/(b<w'.heap.size/\(w.heap.size<=b\/∃id∈S,∃t,az st.h id=some t/\b∈fp id))
 tree:∀id t,az new id=some t->(id∈S\/az st.h id=none)/\bi (bK I' C.B) w' t.1 (rtn id) t.2 (fpn id)/\(fpn id).Nodup/\∀b∈fpn id,¬I' b/\b<w'.heap.size/\(w.heap.size<=b\/∃fS∈S,∃t',az st.h fS=some t'/\b∈fp fS)
 dis:∀i j t u,az new i=some t->az new j=some u->i≠j->∀b∈fpn i,b∉fpn j
 keep:∀e∈CZ,∀t,az st.h e.1=some t->∃t',az new e.1=some t'/\t'.1=t.1/\rtn e.1=rt e.1/\(∃nb,el t.1 e.2=some nb)/\∀(q:List bw) (gx:aq) (ha:Loc) (gq:List Value),gL e.2 q=true->bk w t.1 none (rt e.1) q gx ha gq->bk w' t.1 none (rt e.1) q gx ha gq
 app:∀e∈CZ,∀t,az st.h e.1=some t->∀(q:List bw) (τ:aq) (xs:List τ.den) (loc:Loc) (jU:List Value) (f1:List Nat),lX e.2 q=true->τ.gd=true->bk w t.1 none (rt e.1) q (.osl τ) loc jU->dr t.1 t.2 q (.osl τ) xs->bi (bK I C.B) w (.osl τ) jU xs f1->∃t',az new e.1=some t'/\dr t'.1 t'.2 q (.osl τ) xs/\∀b∈f1,b∈fpn e.1/\c3 w w' b
theorem cc.fZ {C:dZ} {st:ba} {bY:Array Value} {w w':World} {I I':Nat->Prop} {rt rtn:Nat->List Value} {fp fpn:Nat->List Nat} {S:List Nat} {keep:List (Nat×List bw)} {new:List (Nat×a1)} (h:cc C st bY w I rt fp) (u:pj C st w w' I I' rt fp S keep new rtn fpn):cc C ⟨kill S keep st.g,new++del S st.h⟩ bY w' I' (d9 new rtn rt) (d9 new fpn fp):=by
 have bC:∀m b,bK I C.B m b->bK I' C.B m b/\c3 w w' b:=fun m b aa=>by
  refine⟨?_,.of_heap (u.heap b (h.ib b (pQ aa)) (fun id _ t af aF=>h.notM af b aF m aa))⟩;cases m
  ·exact u.i b aa
  ·exact aa.imp (u.i b) id
 have qB:∀id t,az (new++del S st.h) id=some t->(az new id=some t/\d9 new rtn rt id=rtn id/\d9 new fpn fp id=fpn id)\/(az new id=none/\id∉S/\az st.h id=some t/\d9 new rtn rt id=rt id/\d9 new fpn fp id=fp id):=fun id t af=>by
  rw[k1,m1] at af;cases ax:az new id with
  |none=>
   rw[ax] at af;simp only[Option.none_or] at af;split at af
   ·cases af
   ·rename_i bB;exact .inr ⟨rfl,bB,af,by simp[d9,ax],by simp[d9,ax]⟩
  |some u=>rw[ax] at af;exact .inl ⟨by simpa using af,by simp[d9,ax],by simp[d9,ax]⟩
 have Cw:∀id t,az st.h id=some t->id∉S->∀b∈fp id,c3 w w' b:=fun id t af bB b aa=>.of_heap (u.heap b ((h.tree id t af).2.2 b aa).2.2.1 (fun fS l4 t' bx cM=>
  h.dis id fS t t' af bx (fun e=>bB (by rw[e];exact l4)) b aa cM))
 have ako:∀id t,az st.h id=some t->id∉S->∀b∈fp id,¬I' b:=fun id t af bB b aa hi=>by
  have q:=(h.tree id t af).2.2 b aa;rcases u.i2 b hi with hi|⟨_,hi|⟨fS,l4,t',bx,cM⟩⟩
  ·exact q.1 hi
  ·omega
  ·exact h.dis id fS t t' af bx (fun e=>bB (by rw[e];exact l4)) b aa cM
 refine{n:=h.n,i0:=fun b aa=>u.i b (h.i0 b aa),i1:=?_,ib:=?_,tree:=?_,dis:=?_,tmp:=?_,frame:=?_,evo:=fun b aa=>(h.evo b aa).trans (u.evo b (jn aa h.size)),size:=eu h.size u.size,os:=u.os.trans h.os,tape:=u.tape.trans h.tape,output:=u.output.trans h.output,pin:=h.pin}
 ·intro b aa;rcases u.i2 b aa with aa|⟨_,aa|⟨fS,l4,t',bx,cM⟩⟩
  ·exact h.i1 b aa
  ·exact .inr (.inl (eu h.size aa))
  ·exact .inr ((h.tree fS t' bx).2.2 b cM).2.2.2
 ·intro b aa;rcases aa with aa|aa
  ·rcases u.i2 b aa with aa|⟨aa,_⟩
   ·exact jn (h.ib b (.inl aa)) u.size
   ·exact aa
  ·exact jn (h.ib b (.inr aa)) u.size
 ·intro id t af;rcases qB id t af with⟨J,R,ae⟩|⟨aU,bB,J,R,ae⟩
  ·obtain⟨_,aK,aL,a8⟩:=u.tree id t J;rw[R,ae];refine⟨aK,aL,fun b aa=>?_⟩;obtain⟨bX,bn,a9⟩:=a8 b aa;rcases a9 with a9|⟨fS,l4,t',bx,cM⟩
   ·exact⟨bX,fun eP=>by have:=h.ib b (.inr eP);omega,bn,.inl (eu h.size a9)⟩
   ·have q:=(h.tree fS t' bx).2.2 b cM;exact⟨bX,q.2.1,bn,q.2.2.2⟩
  ·obtain⟨aK,aL,a8⟩:=h.tree id t J;rw[R,ae];refine⟨aK.mono bC (Cw id t J bB),aL,fun b aa=>?_⟩;obtain⟨bX,bn,a9,bD⟩:=a8 b aa;exact⟨ako id t J bB b aa,bn,jn a9 u.size,bD⟩
 ·intro i j t v hi al dz b aa;rcases qB i t hi with⟨J,_,ae⟩|⟨aU,bB,J,_,ae⟩<;>rcases qB j v al with⟨bu,_,cl⟩|⟨k0,am7,bu,_,cl⟩<;>rw[ae] at aa<;>rw[cl]
  ·exact u.dis i j t v J bu dz b aa
  ·intro cM;rcases((u.tree i t J).2.2.2 b aa).2.2 with q|⟨fS,l4,t',bx,j0⟩
   ·have:=((h.tree j v bu).2.2 b cM).2.2.1;omega
   ·exact h.dis j fS v t' bu bx (fun e=>am7 (by rw[e];exact l4)) b cM j0
  ·intro cM;rcases((u.tree j v bu).2.2.2 b cM).2.2 with q|⟨fS,l4,t',bx,j0⟩
   ·have:=((h.tree i t J).2.2 b aa).2.2.1;omega
   ·exact h.dis i fS t t' J bx (fun e=>bB (by rw[e];exact l4)) b aa j0
  ·exact h.dis i j t v J bu dz b aa
 ·intro k;show cw _ _ _ _ _ (gt (kill S keep st.g) k) _;rw[rQ];have ac:=h.tmp k;generalize gt st.g k=av at ac;generalize bY.getD k undef=val at ac;suffices Ez:∀(av:aw) (val:Value),cw (bK I C.B) w st.h rt fp av val->cw (bK I' C.B) w' (new++del S st.h) (d9 new rtn rt) (d9 new fpn fp) (d1 S keep av) val by
   cases av with
   |d3 l=>
    cases ac with|d3 ah ax=>
    refine .d3 (by simp[ah]) (fun i a v J R=>?_);rw[f5] at J;obtain⟨a0,ae,rfl⟩:=eM.1 J;exact Ez a0 v (ax i a0 v ae R)
   |_=>exact Ez _ _ ac
  clear ac;have N6:∀(av:aw) (val:Value),cw (bK I C.B) w st.h rt fp av val->av.er S=false\/mZ keep av=true->cw (bK I' C.B) w' (new++del S st.h) (d9 new rtn rt) (d9 new fpn fp) av val:=by
   intro av val ac alV;cases aQ:av.er S with
   |false=>
    refine ac.xU bC (fun id bh t af=>?_);have bB:=Ta aQ id bh;have vb:az new id=none:=by
     cases ax:az new id with
     |none=>rfl
     |some x=>
      rcases(u.tree id x ax).1 with q|q
      ·exact absurd q bB
      ·rw[af] at q;cases q
    refine⟨by rw[k1,vb,m1,if_neg bB];simpa using af,by simp[d9,vb],by simp[d9,vb],(h.tree id t af).1,Cw id t af bB⟩
   |true=>
    have hr:mZ keep av=true:=alV.resolve_left (by rw[aQ];exact fun h=>by cases h);have one:∀(id:Nat) (t:a1),az st.h id=some t->∀e∈keep,e.1=id->∃t',az (new++del S st.h) id=some t'/\t'.1=t.1/\d9 new rtn rt id=rt id/\(∃nb,el t.1 e.2=some nb)/\
     ∀(q:List bw) (gx:aq) (ha:Loc) (gq:List Value),gL e.2 q=true->bk w t.1 none (rt id) q gx ha gq->bk w' t.1 none (rt id) q gx ha gq:=by
     intro id t af e aE bh;subst bh;obtain⟨t',aK,aL,a8,AP,bH⟩:=u.keep e aE _ af;exact⟨t',by rw[k1,aK];rfl,aL,by simp[d9,aK,a8],AP,bH⟩
    have get:∀(id:Nat) (q:List bw),(keep.any fun e=>Nat.beq e.1 id&&gL e.2 q)=true->∃e∈keep,e.1=id/\gL e.2 q=true:=(by intro id q ax;obtain⟨e,aE,R⟩:=sJ.1 ax;simp only[bM] at R;exact⟨e,aE,eZ R.1,R.2⟩);cases av with
    |ref id p=>
     cases p with
     |nil=>
      obtain⟨e,aE,R⟩:=sJ.1 (show(keep.any fun e=>Nat.beq e.1 id)=true from hr);have R:=eZ R;cases ac with|ref af ag=>
      obtain⟨rfl,rfl,rfl⟩:=bk.fH.1 ag;obtain⟨t',aK,aL,a8,_⟩:=one id _ af e aE R;rw[<-aL];refine .ref (loc:=none) aK ?_;rw[a8];exact bk.here
     |cons s p=>
      obtain⟨e,aE,R,ae⟩:=get id (s::p) hr;cases ac with|ref af ag=>
      obtain⟨t',aK,aL,a8,AP,bH⟩:=one id _ af e aE R;have iw:=bH _ _ _ _ ae ag;rw[<-a8,<-aL] at iw;exact .ref aK iw
    |addr id p=>
     obtain⟨e,aE,R⟩:=sJ.1 (show(keep.any fun e=>Nat.beq e.1 id&&QE e.2 p)=true from hr);simp only[bM] at R;obtain⟨R,ae⟩:=R;have R:=eZ R;cases ac with|addr af ag=>
     obtain⟨t',aK,aL,a8,AP,bH⟩:=one id _ af e aE R;rcases Bool.or_eq_true_iff.1 ae with ae|ae
     ·have iw:=bH _ _ _ _ ae ag;rw[<-a8,<-aL] at iw;exact .addr aK iw
     ·obtain⟨r,nA⟩:=Option.isSome_iff_exists.1 ae;obtain⟨_,AP⟩:=AP;obtain⟨gq,iw⟩:=bk.upper AP nA ag bH;rw[<-a8,<-aL] at iw;exact .addr aK iw
    |view id p lo hi=>
     obtain⟨e,aE,R,ae⟩:=get id p hr;cases ac with|nJ=>(exact .nJ _ _)|view af ag da l2 md=>
     obtain⟨t',aK,aL,a8,AP,bH⟩:=one id _ af e aE R;have iw:=bH _ _ _ _ ae ag;rw[<-a8,<-aL] at iw;exact .view aK iw da l2 md
    |_=>cases hr
  intro av val ac;unfold d1;cases aQ:av.er S with
  |false=>simp only[Bool.false_and,cond_false];exact N6 av val ac (.inl aQ)
  |true=>
   cases hr:j6 S keep av with
   |false=>simp only[nN,Bool.and_self,cond_true];exact .dead _
   |true=>
    simp only[lN,Bool.and_false,cond_false];cases av with
    |dQ f l=>
     cases ac with|dQ ah ax=>
     refine .dQ ah (fun i a v J R=>N6 a v (ax i a v J R) ?_);have:=fk.1 hr a (nQ J);simpa using this
    |app id q τ aS own=>
     cases ac with|app af fA ag aD J j1 R mU fh eh=>
     have nA:((own.all fun i=>!(dJ i S))&&keep.any fun e=>Nat.beq e.1 id&&lX e.2 q)=true:=hr;rw[bM] at nA;obtain⟨aH,nA⟩:=nA;have aH:∀i∈own,i∉S:=fun i hi ao=>(by have:=fk.1 aH i hi;rw[eX.2 ao] at this;cases this);obtain⟨e,aE,nA⟩:=sJ.1 nA;simp only[bM] at nA;obtain⟨ak0,aN⟩:=nA;obtain rfl:=eZ ak0;obtain⟨t',aK,aL,a8⟩:=u.app e aE _ af q τ _ _ _ _ aN fA ag aD J;obtain⟨aw4,bX,bn,a9,_,bW⟩:=u.keep e aE _ af;rw[aK] at bX;obtain rfl:=ff bX;have vb:∀i∈own,az new i=none:=fun i hi=>by
      cases ax:az new i with
      |none=>rfl
      |some x=>
       obtain⟨_,iG,mW⟩:=mU i hi;rcases(u.tree i x ax).1 with q|q
       ·exact absurd q (aH i hi)
       ·rw[mW] at q;cases q
     have ao:d9 new rtn rt e.1=rt e.1:=(by simp only[d9,aK,a9]);have Lg:=bW q _ _ _ (Ko aN) ag;rw[<-bn,<-ao] at Lg;refine .app (t:=t') (by rw[k1,aK];rfl) fA Lg aL (J.mono bC (fun b aa=>(a8 b aa).2)) (fun b aa=>by simp only[d9,aK];exact(a8 b aa).1) (R.mono bC (fun b aa=>?_)) (fun i hi=>?_) (fun b aa=>?_) eh
     ·rcases fh b aa with aa|⟨i,hi,aa⟩
      ·exact(a8 b aa).2
      ·obtain⟨_,iG,mW⟩:=mU i hi;exact Cw i iG mW (aH i hi) b aa
     ·obtain⟨aX,iG,mW⟩:=mU i hi;exact⟨aX,iG,by rw[k1,vb i hi,m1,if_neg (aH i hi)];simpa using mW⟩
     ·rcases fh b aa with aa|⟨i,hi,aa⟩
      ·exact .inl aa
      ·exact .inr ⟨i,hi,by simp only[d9,vb i hi];exact aa⟩
    |_=>exact N6 _ val ac (.inr hr)
 ·intro b aa c9;rw[u.heap b (jn aa h.size)]
  ·exact h.frame b aa c9
  ·intro id _ t af cM;have:=((h.tree id t af).2.2 b cM).2.2.2;rcases this with q|q
   ·omega
   ·exact c9 q
section
def k9 (M:du->Nat->Prop) (w:World) (t:aq) (ad:Option Addr) (aS:List t.den) (dG:List (List Nat)):Prop:=
 dG.length=aS.length/\(aS=[]\/∃b o,ad=some ⟨b,o,none⟩/\∀(i:Nat) (y:t.den) (f:List Nat),aS[i]?=some y->dG[i]?=some f->∃ds,ds.length=t.size/\es w b (o+i*t.size) ds/\bi M w t ds y f)
theorem k9.bJ {M:du->Nat->Prop} {w:World} {m:du} {t:aq} {ad:Option Addr} {aS:List t.den} {n cap:Nat} (h:bi M w (.bJ m t) [.slice ad n cap] aS []):n=aS.length/\k9 M w t ad aS (List.replicate aS.length []):=by obtain⟨_,a,c,e,_,_,h⟩:=h;simp only[hh,Value.slice.injEq,and_true] at e;obtain⟨rfl,rfl,rfl⟩:=e;refine⟨rfl,by simp,h.imp id ?_⟩;rintro⟨b,o,aG,_,ab⟩;refine⟨b,o,aG,fun i y f aB aF=>?_⟩;have:i<aS.length:=(e9.1 aB).1;rw[pc,if_pos this] at aF;obtain rfl:=ff aF;exact ab i y aB
theorem k9.osl {M:du->Nat->Prop} {w:World} {t:aq} {ad:Option Addr} {aS:List t.den} {n cap:Nat} {f:List Nat} (h:bi M w (.osl t) [.slice ad n cap] aS f):n=aS.length/\n<=cap/\∃dG,k9 M w t ad aS dG/\(∀c∈dG.flatten,c∈f)/\(f.Nodup->dG.flatten.Nodup)/\((ad=none/\cap=0/\f=[])\/∃b o,ad=some ⟨b,o,none⟩/\f=b::dG.flatten/\jR w b o (o+cap*t.size)):=by
 obtain⟨a,c,e,h⟩:=h;simp only[hh,Value.slice.injEq,and_true] at e;obtain⟨rfl,rfl,rfl⟩:=e;rcases h with⟨rfl,rfl,rfl,rfl⟩|⟨b,o,dI,rfl,rfl,aK,aL,a8,bH⟩
 ·exact⟨rfl,bS _,[],⟨rfl,.inl rfl⟩,by simp,by simp,.inl ⟨rfl,rfl,rfl⟩⟩
 ·refine⟨rfl,aL,dI,⟨aK,.inr ⟨b,o,rfl,bH⟩⟩,fun c hc=>f6 _ hc,fun h=>(lQ.1 h).2,.inr ⟨b,o,rfl,rfl,a8⟩⟩
theorem k9.cells {M:du->Nat->Prop} {w:World} {t:aq} {ad:Option Addr} {aS:List t.den} {dG:List (List Nat)} (h:k9 M w t ad aS dG) (ay:0<t.size):∃news:List Value,news.length=aS.length*t.size/\(∀v∈news,v.oneCell'=true)/\(∀b,ad=some b->aS≠[]->∀(j:Nat) v,news[j]?=some v->w.cell? (b.add j)=some v)/\∀(i:Nat) (y:t.den) (f:List Nat),aS[i]?=some y->dG[i]?=some f->bi M w t ((news.drop (i*t.size)).take t.size) y f:=by
 obtain⟨ah,h⟩:=h;rcases h with rfl|⟨b,o,rfl,h⟩
 ·exact⟨[],by simp,by simp,fun _ _ h=>absurd rfl h,by simp⟩
 ·have oT:∀k,k<aS.length*t.size->∃v,w.cell? ⟨b,o+k,none⟩=some v/\v.oneCell'=true:=by
   intro k ac;have hi:k/t.size<aS.length:=(Nat.div_lt_iff_lt_mul ay).2 ac;obtain⟨ds,cJ,cz,cX⟩:=h (k/t.size) aS[k/t.size] (dG[k/t.size]'(by omega)) (by simp) (by simp)
   have ao:=Nat.mod_lt k ay;have:ds[k %t.size]?=some (ds[k %t.size]'(by omega)):=ct _
   refine⟨_,?_,cX.one _ (dt (by omega:k %t.size<ds.length))⟩;have:=cz _ _ this;rwa[show o+k/t.size*t.size+k %t.size=o+k by have:=Nat.div_add_mod k t.size;rw[oI] at this;omega] at this
  have mR:∀k,((List.range (aS.length*t.size)).map fun k=>(w.cell? ⟨b,o+k,none⟩).getD undef)[k]?=if k<aS.length*t.size then w.cell? ⟨b,o+k,none⟩ else none:=by
   intro k;rw[f5];by_cases ac:k<aS.length*t.size
   ·rw[if_pos ac,ur ac];obtain⟨v,hv,_⟩:=oT k ac;simp[hv]
   ·rw[if_neg ac,gy (by simp;omega)];rfl
  refine⟨(List.range (aS.length*t.size)).map fun k=>(w.cell? ⟨b,o+k,none⟩).getD undef,by simp,?_,?_,?_⟩
  ·intro v hv;obtain⟨k,ac,rfl⟩:=dj.1 hv;obtain⟨u,aQ,J⟩:=oT k (jl.1 ac);simpa[aQ] using J
  ·intro cP cM _ j v al;cases cM;rw[mR] at al;split at al
   ·rw[Addr.add_lit];exact al
   ·cases al
  ·intro i y f aB aF;obtain⟨ds,cJ,cz,cX⟩:=h i y f aB aF;have hi:i<aS.length:=(e9.1 aB).1;have:(((List.range (aS.length*t.size)).map fun k=>(w.cell? ⟨b,o+k,none⟩).getD undef).drop (i*t.size)).take t.size=ds:=by
    apply jj;intro j;rcases ch j t.size with al|al
    ·rw[oG al,ng,mR];have J:(i+1)*t.size<=aS.length*t.size:=jT _ hi;rw[iJ,kP] at J;rw[if_pos (by omega)];have:ds[j]?=some (ds[j]'(by omega)):=ct _
     rw[this,<-BE];exact cz _ _ this
    ·rw[gy (by simp;omega),gy (by omega)]
   rw[this];exact cX
section
variable {P:Program}
theorem ags {w:World} {T ty S:TypeId} {t:aq} {i:TypeInfo} (bd:P.underlying T=some (.slice S)) (bB:ei P t S) (hi:P.info? S=some i) (d8:t.size<=1300) {ad yd:Option Addr} {n cap m c:Nat} {olds news:List Value} (aH:olds.length=n*t.size) (alR:∀b,ad=some b->∀(j:Nat) (v:Value),olds[j]?=some v->w.cell? (b.add j)=some v) (aml:∀b,ad=some b->b.spot=none) (rV:n<=cap) (pI:ad=none->cap=0) (ag:news.length=m*t.size) (J:∀v∈news,v.oneCell'=true) (PW:∀b,yd=some b->0<m->∀(j:Nat) (v:Value),news[j]?=some v->w.cell? (b.add j)=some v) (XK:yd=none->m=0) (hC:∀b,ad=some b->jR w b.block b.off (b.off+cap*t.size)) (gK:n+m<=gv):∃ed w',(Builtin.append_ #[T,T] ty #[.slice ad n cap,.slice yd m c]).run P w=.ok ed w'/\((
   n+m<=cap/\ed=.slice ad (n+m) cap/\((ad=none/\w'=w)\/∃b,ad=some b/\w'=w.setCells b.block (b.off+n*t.size) news))\/
   ∃(fy:Nat) (cells:Array Value),cap<n+m/\n+m<=fy/\ed=.slice (some ⟨w.heap.size,0,none⟩) (n+m) fy/\hV w w'/\w'.heap[w.heap.size]?=some (.cells cells S (0,0))/\w'.heap.size=w.heap.size+1/\fy*t.size<=cells.size/\∀(j:Nat) (v:Value),(olds++news)[j]?=some v->cells[j]?=some v):=by
 obtain⟨kB,_,dp,_⟩:=bB.info;have ep:=dp.info;rw[hi] at ep;cases ep;have mV:=bB.pos;by_cases Ac:n+m<=cap
 ·by_cases ao:m=0
  ·subst ao;obtain rfl:news=[]:=pb (by simpa using ag);have WU:(Builtin.firstCells t.size 0 (.slice yd 0 c)).run P w=.ok #[] w:=by
    cases yd with
    |none=>rfl
    |some b=>simp[Builtin.firstCells,loadCells,loadCellsFrom]
   refine⟨.slice ad n cap,w,?_,.inl ⟨Ac,rfl,?_⟩⟩
   ·cases ad with
    |none=>simp[Builtin.append_,run_underlying bd,sizeOf,typeInfo,hi,Builtin.lenOf,dp.size,rV,WU]
    |some b=>simp[Builtin.append_,run_underlying bd,sizeOf,typeInfo,hi,Builtin.lenOf,dp.size,rV,WU,storeCells]
   ·cases ad with
    |none=>exact .inl ⟨rfl,rfl⟩
    |some b=>exact .inr ⟨b,rfl,rfl⟩
  ·cases ad with
   |none=>have:=pI rfl;omega
   |some b=>
    cases yd with
    |none=>exact absurd (XK rfl) ao
    |some y=>
     obtain⟨NM,agR,bs⟩:=b;obtain rfl:bs=none:=aml _ rfl;have CE:(n+m)*t.size<=cap*t.size:=jT _ Ac;rw[iJ] at CE;have hr:=run_append_room_cells (P:=P) w T ty S i bd hi NM agR n cap y m c news (by rw[dp.size];exact ag) (PW y rfl (by omega)) J Ac (fun j al=>(hC _ rfl _ (by rw[dp.size];simp only;omega) (by rw[dp.size];simp only;omega)).1) (fun j al=>(hC _ rfl _ (by rw[dp.size];simp only;omega) (by rw[dp.size];simp only;omega)).2);rw[dp.size] at hr;exact⟨_,_,hr,.inl ⟨Ac,rfl,.inr ⟨_,rfl,rfl⟩⟩⟩
 ·obtain⟨il,amK,aZ⟩:=bB.Pu;have aZ:=aZ i hi;have ao:0<m:=(by omega);cases yd with
  |none=>have:=XK rfl;omega
  |some y=>
   have FL:(n+m)*i.bytes<=140737488355328:=(by have J:(n+m)*i.bytes<=gv*31200:=oJ gK (by have:=dp.bytes;omega);unfold gv at J;omega);have FX:((n+m:Nat):Int)<=9223372036854775807:=(by unfold gv at gK;omega);have fP:∀(RO:Nat),let fy:=grownCap w (n+m) RO S
    n+m<=fy/\hV w (w.drew.alloc (.cells (olds.toArray++news.toArray++Builtin.zeroCells il.cells (fy-(n+m))) S))/\
    (w.drew.alloc (.cells (olds.toArray++news.toArray++Builtin.zeroCells il.cells (fy-(n+m))) S)).heap[w.heap.size]?=some (.cells (olds.toArray++news.toArray++Builtin.zeroCells il.cells (fy-(n+m))) S (0,0))/\
    fy*t.size<=(olds.toArray++news.toArray++Builtin.zeroCells il.cells (fy-(n+m))).size/\
    ∀(j:Nat) (v:Value),(olds++news)[j]?=some v->(olds.toArray++news.toArray++Builtin.zeroCells il.cells (fy-(n+m)))[j]?=some v:=by
    intro RO fy;have kW:n+m<=fy:=grownCap_ge w (n+m) RO S;refine⟨kW,(hV.refl w).drew.trans (hV.alloc _ _),heap_alloc_new w.drew _,?_,?_⟩
    ·simp only[Array.size_append,wF,size_zeroCells,amK,aH,ag,<-iJ];refine jT _ ?_;omega
    ·intro j v al;have ny:j<(olds++news).length:=(e9.1 al).1;rw[Array.getElem?_append,if_pos (by simpa using ny)];simpa using al
   cases ad with
   |some b=>
    have hr:=run_append_grow (P:=P) w T ty S i il bd hi aZ b n cap olds (by rw[dp.size];exact aH) (alR b rfl) y m c news (by rw[dp.size];exact ag) (PW y rfl ao) (by omega) FX (growslice_fits (by omega) FL);obtain⟨f1,cC,hA,n0,uV⟩:=fP cap;exact⟨_,_,hr,.inr ⟨_,_,by omega,f1,rfl,cC,hA,by simp,n0,uV⟩⟩
   |none=>
    have n7:=pI rfl;have PV:n=0:=(by omega);subst n7;subst PV;obtain rfl:olds=[]:=pb (by simpa using aH);simp only[ks] at FX FL fP;have hr:=run_append_nil (P:=P) w T ty S i il bd hi aZ y m c news (by rw[dp.size];exact ag) (PW y rfl ao) ao FX (by omega);obtain⟨f1,cC,hA,n0,uV⟩:=fP 0;simp only[hj,Array.empty_append] at f1 cC hA n0 uV;refine⟨_,_,hr,.inr ⟨_,_,by omega,by rw[ks];exact f1,by rw[ks],cC,hA,by simp,n0,uV⟩⟩
end
end
theorem HB (b:Nat):∀(vs:List Value) (o:Nat) (w:World) (k:Nat),k≠b->(w.setCells b o vs).heap[k]?=w.heap[k]?
 |[],_,_,_,_=>rfl
 |v::r,o,w,k,ac=>by rw[World.setCells,HB b r _ _ k ac];simp only[World.setCell,wu];rw[if_neg (fun e=>ac e.symm)]
theorem DC (b:Nat):∀(vs:List Value) (o:Nat) (w:World),(w.setCells b o vs).heap.size=w.heap.size
 |[],_,_=>rfl
 |v::r,o,w=>by rw[World.setCells,DC b r];simp
theorem tX (b:Nat):∀(vs:List Value) (o:Nat) (w:World),(w.setCells b o vs).os=w.os/\(w.setCells b o vs).tape=w.tape/\(w.setCells b o vs).output=w.output
 |[],_,_=>⟨rfl,rfl,rfl⟩
 |v::r,o,w=>by rw[World.setCells];exact tX b r _ _
theorem SJ (b:Nat) (vs:List Value) (o:Nat) (w:World) (h:∀j,j<vs.length->(w.cell? ⟨b,o+j,none⟩).isSome=true) (c:Nat):((w.setCells b o vs).cell? ⟨b,c,none⟩).isSome=(w.cell? ⟨b,c,none⟩).isSome:=by
 by_cases hc:o<=c/\c<o+vs.length
 ·obtain⟨j,rfl⟩:∃j,c=o+j:=⟨c-o,by omega⟩;rw[World.cell?_setCells_in b vs o w h j (by omega),h j (by omega)];rfl
 ·rw[World.cell?_setCells_out b vs o w _ (fun _ _=>by simp only;omega)]
theorem aow (w:World) (a:Addr) (v:Value) (c:Nat):jy (w.setCell a v) c=jy w c:=by
 unfold jy World.setCell;simp only[wu];by_cases e:a.block=c
 ·subst e;simp only[if_true];cases w.heap[a.block]? with
  |none=>rfl
  |some o=>cases o<;>rfl
 ·simp only[if_neg e]
theorem GV (b:Nat):∀(vs:List Value) (o:Nat) (w:World) (c:Nat),jy (w.setCells b o vs) c=jy w c
 |[],_,_,_=>rfl
 |v::r,o,w,c=>by rw[World.setCells,GV b r (o+1),aow]
theorem v2 {b:Nat} {vs:List Value} {o:Nat} {w:World} {k:Nat} (ac:k≠b):c3 w (w.setCells b o vs) k:=.of_heap (HB b vs o w k ac)
theorem Ul {P:Program} {M:du->Nat->Prop} {w:World} {T ty S:TypeId} {t:aq} {i:TypeInfo} (bd:P.underlying T=some (.slice S)) (bB:ei P t S) (hi:P.info? S=some i) (d8:t.size<=1300) {ad yd:Option Addr} {n cap c:Nat} {xs aS:List t.den} {f1:List Nat} {dG:List (List Nat)} (ab:bi M w (.osl t) [.slice ad n cap] xs f1) (aB:k9 M w t yd aS dG) (eh:f1.Nodup) (bC:∀b∈f1,∀m,¬M m b) (alO:dG.flatten.Nodup) (K4:∀b∈f1,b∉dG.flatten) (akx:∀m b,M m b->b<w.heap.size) (Cy:∀b∈f1,b<w.heap.size) (gE:∀b∈dG.flatten,b<w.heap.size) (gK:xs.length+aS.length<=gv):∃ed w' cC,(Builtin.append_ #[T,T] ty #[.slice ad n cap,.slice yd aS.length c]).run P w=.ok ed w'/\bi M w' (.osl t) [ed] (xs++aS) cC/\bi M w' (.osl t) [.slice ad n cap] xs f1/\cC.Nodup/\(∀b∈cC,b∈f1\/b∈dG.flatten\/(w.heap.size<=b/\b<w'.heap.size))/\w.heap.size<=w'.heap.size/\w'.os=w.os/\w'.tape=w.tape/\w'.output=w.output/\(∀b,b<w.heap.size->b∉f1->w'.heap[b]?=w.heap[b]?)/\(∀m b,M m b->c3 w w' b)/\(∀b∈dG.flatten,c3 w w' b)/\(∀b,b<w.heap.size->jy w' b=jy w b):=by
 obtain⟨rfl,rV,rM,XH,K7,ald,Ah⟩:=k9.osl ab;have mV:=bB.pos;obtain⟨olds,hQ,mf,x0,apv⟩:=XH.cells mV;obtain⟨news,om,lF,se,o3⟩:=aB.cells mV;have Le:=XH.1;have Xc:=aB.1;obtain⟨ed,w',hr,qB⟩:=ags (P:=P) (w:=w) (ty:=ty) bd bB hi d8 (ad:=ad) (yd:=yd) (n:=xs.length) (cap:=cap) (m:=aS.length) (c:=c) (olds:=olds) (news:=news) hQ (fun b aa j v al=>x0 b aa (by rintro rfl;simp at hQ;subst hQ;simp at al) j v al) (fun b aa=>by rcases Ah with⟨aU,_⟩|⟨cP,bL,aU,_⟩<;>rw[aa] at aU<;>cases aU;rfl) rV (fun aU=>by rcases Ah with⟨_,h,_⟩|⟨cP,bL,h,_⟩;exact h;rw[aU] at h;cases h) om lF (fun b aa ao j v al=>se b aa (by rintro rfl;simp at ao) j v al) (fun aU=>by rcases aB.2 with rfl|⟨b,o,h,_⟩;rfl;rw[aU] at h;cases h) (fun b aa=>by
   rcases Ah with⟨aU,_⟩|⟨cP,bL,aU,_,hC⟩
   ·rw[aa] at aU;cases aU
   ·rw[aa] at aU;cases aU;exact hC) gK
 have u4:(rM++dG).flatten=rM.flatten++dG.flatten:=(by simp);have pG:(rM++dG).flatten.Nodup:=(by rw[u4,kO];exact⟨ald eh,alO,fun a aG b aa e=>K4 a (K7 a aG) (e▸aa)⟩);have mQ:∀(k:Nat) (y:t.den) (f:List Nat),(xs++aS)[k]?=some y->(rM++dG)[k]?=some f->bi M w t (((olds++news).drop (k*t.size)).take t.size) y f/\∀b∈f,b∈rM.flatten\/b∈dG.flatten:=by
  intro k y f ac aF;rcases ch k xs.length with h|h
  ·rw[sL h] at ac;rw[sL (by omega)] at aF;have J:(k+1)*t.size<=xs.length*t.size:=jT _ h;rw[iJ,kP] at J;rw[yJ (by omega),yO (by simp;omega)];exact⟨apv k y f ac aF,fun b aa=>.inl (kN.2 ⟨f,nQ aF,aa⟩)⟩
  ·rw[uo h] at ac;rw[uo (by omega),Le] at aF;have J:xs.length*t.size<=k*t.size:=jT _ h;rw[List.drop_append,yK (by omega),hj,hQ,show k*t.size-xs.length*t.size=(k-xs.length)*t.size by rw[Nat.sub_mul]];exact⟨o3 _ y f ac aF,fun b aa=>.inr (kN.2 ⟨f,nQ aF,aa⟩)⟩
 rcases qB with⟨Ac,rfl,hw⟩|⟨fy,cells,awx,kW,rfl,aD,ax,awy,rW,mP⟩
 ·rcases hw with⟨rfl,rfl⟩|⟨b,rfl,rfl⟩
  ·have n7:cap=0:=by rcases Ah with⟨_,h,_⟩|⟨cP,bL,h,_⟩;exact h;cases h
   obtain rfl:xs=[]:=pb (by omega);obtain rfl:aS=[]:=pb (by omega);exact⟨_,w',f1,hr,by simpa using ab,ab,eh,fun b aa=>.inl aa,bS _,rfl,rfl,rfl,fun _ _ _=>rfl,fun _ _ _=>c3.refl _ _,fun _ _=>c3.refl _ _,fun _ _=>rfl⟩
  ·rcases Ah with⟨aU,_⟩|⟨cP,bL,aU,rfl,hC⟩
   ·cases aU
   cases aU;have cM:cP∉rM.flatten:=(lQ.1 eh).1;have Py:cP∉dG.flatten:=K4 cP (by simp);have CE:(xs.length+aS.length)*t.size<=cap*t.size:=jT _ Ac;rw[iJ] at CE;have CM:∀j,j<news.length->(w.cell? ⟨cP,bL+xs.length*t.size+j,none⟩).isSome=true:=fun j al=>(hC _ (by omega) (by omega)).1;have n5:∀m k,M m k->M m k/\c3 w (w.setCells cP (bL+xs.length*t.size) news) k:=fun m k ac=>⟨ac,v2 (fun e=>bC cP (by simp) m (e▸ac))⟩;have WX:jR (w.setCells cP (bL+xs.length*t.size) news) cP bL (bL+cap*t.size):=fun j J R=>(by rw[SJ cP news _ w CM,World.frozen?_setCells];exact hC j J R);have jM:∀j v,(olds++news)[j]?=some v->(w.setCells cP (bL+xs.length*t.size) news).cell? ⟨cP,bL+j,none⟩=some v:=by
    intro j v al;rcases ch j olds.length with h|h
    ·rw[sL h] at al;rw[World.cell?_setCells_out cP news _ w _ (fun _ _=>by simp only;omega)];have:=x0 ⟨cP,bL,none⟩ rfl (by rintro rfl;simp at hQ;subst hQ;simp at h) j v al;rwa[Addr.add_lit] at this
    ·rw[uo h] at al;obtain⟨q,rfl⟩:∃q,j=olds.length+q:=⟨j-olds.length,by omega⟩;rw[sO] at al;have ai:q<news.length:=(e9.1 al).1;rw[hQ,<-BE,World.cell?_setCells_in cP news _ w CM q ai];rw[ct ai] at al;exact al
   refine⟨_,_,cP::(rM++dG).flatten,hr,?_,?_,?_,?_,by rw[DC];exact bS _,(tX _ _ _ _).1,(tX _ _ _ _).2.1,(tX _ _ _ _).2.2,?_,fun m k ac=>(n5 m k ac).2,fun k ac=>v2 (fun e=>Py (by have dy:k=cP:=e;rw[<-dy];exact ac)),fun k _=>GV _ _ _ _ _⟩
   ·refine⟨some ⟨cP,bL,none⟩,cap,by simp,.inr ⟨cP,bL,rM++dG,rfl,rfl,by simp[Le,Xc],by simpa using Ac,WX,fun k y f ac aF=>?_⟩⟩;obtain⟨J,R⟩:=mQ k y f ac aF;refine⟨_,J.len,fun j v al=>?_,J.mono n5 (fun q ai=>v2 (fun e=>?_))⟩
    ·have ny:(olds++news)[k*t.size+j]?=some v:=by
      rw[yL] at al;split at al
      ·rwa[ng] at al
      ·cases al
     rw[BE];exact jM _ _ ny
    ·subst e;rcases R q ai with h|h
     ·exact cM h
     ·exact Py h
   ·refine⟨some ⟨cP,bL,none⟩,cap,rfl,.inr ⟨cP,bL,rM,rfl,rfl,Le,rV,WX,fun k y f ac aF=>?_⟩⟩;have pE:k<xs.length:=(e9.1 ac).1;obtain⟨J,R⟩:=mQ k y f (by rw[sL pE];exact ac) (by rw[sL (by omega)];exact aF);refine⟨_,J.len,fun j v al=>?_,J.mono n5 (fun q ai=>v2 (fun e=>?_))⟩
    ·have ny:(olds++news)[k*t.size+j]?=some v:=by
      rw[yL] at al;split at al
      ·rwa[ng] at al
      ·cases al
     rw[BE];exact jM _ _ ny
    ·subst e;exact cM (kN.2 ⟨f,nQ aF,ai⟩)
   ·rw[lQ,u4];exact⟨by simp[cM,Py],u4▸pG⟩
   ·intro k ac;rcases dV.1 ac with rfl|ac
    ·exact .inl (by simp)
    ·rw[u4] at ac;rcases fe.1 ac with h|h
     ·exact .inl (f6 _ h)
     ·exact .inr (.inl h)
   ·intro k _ ac;exact HB cP _ _ _ k (fun e=>ac (e▸by simp))
 ·have n5:∀m k,M m k->M m k/\c3 w w' k:=fun m k ac=>⟨ac,.of_heap (aD.heap k (akx m k ac))⟩;have n8:∀j,w'.cell? ⟨w.heap.size,j,none⟩=cells[j]?/\w'.frozen? ⟨w.heap.size,j,none⟩=false:=fun j=>by
   simp[World.cell?,World.frozen?,ax]
  refine⟨_,w',w.heap.size::(rM++dG).flatten,hr,?_,ab.mono n5 (fun k ac=>.of_heap (aD.heap k (Cy k ac))),?_,?_,aD.size,aD.os,aD.tape,aD.output,fun k ac _=>aD.heap k ac,fun m k ac=>(n5 m k ac).2,fun k ac=>.of_heap (aD.heap k (gE k ac)),fun k ac=>(c3.of_heap (aD.heap k ac)).2⟩
  ·refine⟨some ⟨w.heap.size,0,none⟩,fy,by simp,.inr ⟨w.heap.size,0,rM++dG,rfl,rfl,by simp[Le,Xc],by simpa using kW,fun j _ R=>?_,fun k y f ac aF=>?_⟩⟩
   ·rw[(n8 j).1,(n8 j).2];exact⟨by simp;omega,rfl⟩
   ·obtain⟨J,R⟩:=mQ k y f ac aF;refine⟨_,J.len,fun j v al=>?_,J.mono n5 (fun q ai=>.of_heap (aD.heap q ?_))⟩
    ·rw[(n8 _).1];have ny:(olds++news)[k*t.size+j]?=some v:=by
      rw[yL] at al;split at al
      ·rwa[ng] at al
      ·cases al
     rw[ks];exact mP _ _ ny
    ·rcases R q ai with h|h
     ·exact Cy q (K7 q h)
     ·exact gE q h
  ·rw[lQ];refine⟨fun h=>?_,pG⟩;rw[u4] at h;rcases fe.1 h with h|h
   ·have:=Cy _ (K7 _ h);omega
   ·have:=gE _ h;omega
  ·intro k ac;rcases dV.1 ac with rfl|ac
   ·exact .inr (.inr ⟨bS _,by omega⟩)
   ·rw[u4] at ac;rcases fe.1 ac with h|h
    ·exact .inl (K7 k h)
    ·exact .inr (.inl h)
section
theorem ea.get:∀{p:List bw} {τ:aq} {x ht:τ.den} {τ':aq} {y:τ'.den},ea τ x p τ' y ht->∃g4,dr τ x p τ' g4
 |[],τ,x,_,_,_,h=>by obtain⟨rfl,_⟩:=ea.fH.1 h;exact⟨x,dr.fH.2 ⟨rfl,rfl⟩⟩
 |s::p,τ,_,_,_,_,h=>by
  cases τ<;>cases s<;>simp only[ea] at h
  case osl.idx=>obtain⟨e,dy,aE,h,_⟩:=h;obtain⟨g4,aU⟩:=ea.get (p:=p) h;exact⟨g4,e,aE,aU⟩
  case optr.deref=>exact ea.get (p:=p) h
  case st.unst=>exact ea.get (p:=p) h
  case pr.fst=>obtain⟨dy,h,_⟩:=h;exact ea.get (p:=p) h
  case pr.snd=>obtain⟨dy,h,_⟩:=h;exact ea.get (p:=p) h
theorem ea.same:∀{p:List bw} {τ:aq} {x:τ.den} {τ':aq} {y:τ'.den},dr τ x p τ' y->ea τ x p τ' y x
 |[],τ,x,_,_,h=>by obtain⟨rfl,rfl⟩:=dr.fH.1 h;exact ea.fH.2 ⟨rfl,rfl⟩
 |s::p,τ,x,_,_,h=>by
  cases τ<;>cases s<;>simp only[dr] at h
  case osl.idx i=>
   obtain⟨e,aE,h⟩:=h;refine⟨e,e,aE,ea.same (p:=p) h,?_⟩;obtain⟨hi,rfl⟩:=e9.1 aE;exact(List.set_getElem_self hi).symm
  case optr.deref=>exact ea.same (p:=p) h
  case st.unst=>exact ea.same (p:=p) h
  case pr.fst=>exact⟨x.1,ea.same (p:=p) h,rfl⟩
  case pr.snd=>exact⟨x.2,ea.same (p:=p) h,rfl⟩
theorem L0 {d:Nat} {t:a1} {α:Type} {a:α} {b:Nat->α}:d9 [(d,t)] (fun _=>a) b d=a:=by simp[d9,db]
section
variable {E:eI} {C:dZ} {st:ba} {a:Act} {bY:Array Value} {w:World} {I:Nat->Prop} {rt:Nat->List Value} {fp:Nat->List Nat} {o:Oper}
theorem atI {b bL n:Nat} {cs:List Value} (ah:cs.length=n) (hC:jR w b bL (bL+n)) (c:Nat):ww w (w.setCells b bL cs) (some (b,bL)) n c:=by
 have CM:∀j,j<cs.length->(w.cell? ⟨b,bL+j,none⟩).isSome=true:=fun j al=>(hC _ (by omega) (by omega)).1;refine⟨fun j al=>World.cell?_setCells_out b cs bL w _ (fun e _=>?_),fun j=>World.frozen?_setCells _ _ _ _ _,fun j=>?_,GV _ _ _ _ _⟩
 ·have e:c=b:=e;have:=al bL (by rw[e]);simp only;omega
 ·by_cases e:c=b
  ·subst e;exact SJ c cs bL w CM j
  ·rw[((v2 (w:=w) (o:=bL) (vs:=cs) e).1 j).1]
theorem cc.aua (ar:cc C st bY w I rt fp) {id:Nat} {t:a1} (af:az st.h id=some t) {p:List bw} {τ':aq} {b bL:Nat} {ze:List Value} (ag:bk w t.1 none (rt id) p τ' (some (b,bL)) ze) {y:τ'.den} {ht:t.1.den} (hs:ea t.1 t.2 p τ' y ht) {b3:List Value} {rN S2:List Nat} (aB:bi (bK I C.B) w τ' b3 y rN) (eh:rN.Nodup) (tc:id∉S2) (rX:∀c∈rN,(∃f1,∃g4:τ'.den,τ'.gd=true/\bi (bK I C.B) w τ' ze g4 f1/\c∈f1)\/∃i∈S2,∃u,az st.h i=some u/\c∈fp i):jR w b bL (bL+τ'.size)/\∃rtn fpn,cc C ⟨kill (id::S2) [(id,p)] st.g,(id,⟨t.1,ht⟩)::del (id::S2) st.h⟩ bY (w.setCells b bL b3) I rtn fpn/\rtn id=rt id/\bk (w.setCells b bL b3) t.1 none (rt id) p τ' (some (b,bL)) b3:=by
 obtain⟨hr,CF,K2⟩:=ar.tree id t af;obtain⟨g4,aD⟩:=hs.get;obtain⟨dE,Oa,hM,dK,bT,bz,cZ,cU,gD,jZ,nq⟩:=FA p (loc:=none) hr (fun _ _ h=>by cases h) CF (fun _ _ h=>by cases h) (ar.notM af) aD;obtain⟨_,aC,aV⟩:=ag.jX bT;subst aC;subst aV;obtain⟨_,hC⟩:=cZ b bL rfl;have WM:b∈dK:=by
  rcases gD b bL rfl with⟨q,h,_⟩|h
  ·cases h
  ·exact h
 have WJ:b∈fp id:=cU.mem_iff.2 (by simp[WM]);have pG:=cU.nodup_iff.1 CF;rw[kO] at pG;obtain⟨l7,h6,pF⟩:=pG;have mP:∀c∈rN,c∈hM\/∃i∈S2,∃u,az st.h i=some u/\c∈fp i:=fun c hc=>by
  rcases rX c hc with⟨f1,HW,aa,lx,h⟩|h
  ·rw[<-bi.uniq aa bz lx] at h;exact .inl h
  ·exact .inr h
 have alX:∀i∈S2,∀u,az st.h i=some u->∀c∈fp i,c∉fp id:=fun i hi u aQ c hc qA=>ar.dis i id u t aQ af (fun e=>tc (e▸hi)) c hc qA;have W0:∀c∈rN,c∉dK:=fun c hc qA=>by
  rcases mP c hc with h|⟨i,hi,u,aQ,h⟩
  ·exact pF c h c qA rfl
  ·exact alX i hi u aQ c h (cU.mem_iff.2 (by simp[qA]))
 have n4:∀m c,bK I C.B m c->c≠b:=fun m c hc e=>ar.notM af b WJ m (e▸hc);have akP:=atI (w:=w) aB.len hC;have amI:bi (bK I C.B) (w.setCells b bL b3) τ' b3 y rN:=aB.mono (fun m c hc=>⟨hc,v2 (n4 m c hc)⟩) (fun c hc=>v2 (fun e=>W0 c hc (by rw[e];exact WM)));have CM:∀j,j<b3.length->(w.cell? ⟨b,bL+j,none⟩).isSome=true:=fun j al=>(hC _ (by omega) (by have:=aB.len;omega)).1;have jM:es (w.setCells b bL b3) b bL b3:=fun j v al=>(by have ny:j<b3.length:=(e9.1 al).1;rw[World.cell?_setCells_in b b3 bL w CM j ny];rw[ct ny] at al;exact al);obtain⟨fa,hA,bu,_,bE,_,cl,am6,h9⟩:=jZ (w.setCells b bL b3) (bK I C.B) b3 y rN ht (fun _ _ h=>h) (fun c _=>akP c) amI (fun h=>by cases h) (fun dn hQ e=>by simp only[cI,gz] at e;obtain⟨rfl,rfl⟩:=e;exact jM) hs;obtain rfl:=bE rfl (.inl (by simp));have qC:∀c∈hA,c∈fp id\/∃i∈S2,∃u,az st.h i=some u/\c∈fp i:=fun c hc=>by
  rcases fe.1 (cl.mem_iff.1 hc) with h|h
  ·rcases mP c h with h|h
   ·exact .inl (cU.mem_iff.2 (by simp[h]))
   ·exact .inr h
  ·exact .inl (cU.mem_iff.2 (by simp[h]))
 have zV:=ar.fZ (S:=id::S2) (keep:=[(id,p)]) (new:=[(id,⟨t.1,ht⟩)]) (rtn:=fun _=>rt id) (fpn:=fun _=>hA) (w':=w.setCells b bL b3) (I':=I) ⟨?_,(tX _ _ _ _).1,(tX _ _ _ _).2.1,(tX _ _ _ _).2.2,?_,fun c _=>.of_eq (GV _ _ _ _ _),fun _ h=>h,fun _ h=>.inl h,?_,?_,?_,?_⟩
 ·exact⟨hC,_,_,zV,by rw[L0],am6⟩
 ·rw[DC];exact bS _
 ·intro c _ hc;exact HB b _ _ _ c (fun e=>hc id (by simp) t af (e▸WJ))
 ·intro i u aQ;rw[db] at aQ;split at aQ
  ·rename_i e;subst e;cases aQ;refine⟨.inl (by simp),bu,?_,fun c hc=>?_⟩
   ·rw[cl.nodup_iff,kO];exact⟨eh,h6,fun x ab z aZ e=>W0 x ab (e▸aZ)⟩
   ·rcases qC c hc with h|⟨i,hi,u,aQ,h⟩
    ·obtain⟨aK,aL,a8,bH⟩:=K2 c h;exact⟨aK,by rw[DC];exact a8,.inr ⟨id,by simp,t,af,h⟩⟩
    ·obtain⟨aK,aL,a8,bH⟩:=(ar.tree i u aQ).2.2 c h;exact⟨aK,by rw[DC];exact a8,.inr ⟨i,by simp[hi],u,aQ,h⟩⟩
  ·cases aQ
 ·intro i j u v hi al dz;rw[db] at hi al;split at hi
  ·split at al
   ·rename_i aC aV;exact absurd (aC.symm.trans aV) dz
   ·cases al
  ·cases hi
 ·intro i hi u aQ;simp only[fv] at hi;subst hi;rw[af] at aQ;obtain rfl:=ff aQ;refine⟨⟨t.1,ht⟩,?_,rfl,rfl,⟨_,ag.ty⟩,h9⟩;rw[db,if_pos rfl]
 ·intro i hi u aQ q f2 Tg l2 cd cC aN fA h6 h5 e2;simp only[fv] at hi;subst hi;rw[af] at aQ;obtain rfl:=ff aQ;refine⟨⟨t.1,ht⟩,by rw[db,if_pos rfl],zy aN hs h5,fun c hc=>?_⟩;obtain⟨aK,aL⟩:=nq q _ _ _ _ _ aN (by exact fA) h5 h6 e2 c hc;exact⟨cl.mem_iff.2 (oH _ aK),v2 (aL _ _ rfl)⟩
theorem cc.store (ar:cc C st bY w I rt fp) {id:Nat} {t:a1} (af:az st.h id=some t) {p:List bw} {τ':aq} {b bL:Nat} {ze:List Value} (ag:bk w t.1 none (rt id) p τ' (some (b,bL)) ze) {y:τ'.den} {ht:t.1.den} (hs:ea t.1 t.2 p τ' y ht) {b3:List Value} {rN S2:List Nat} (aB:bi (bK I C.B) w τ' b3 y rN) (eh:rN.Nodup) (tc:id∉S2) (rX:∀c∈rN,(∃f1,∃g4:τ'.den,τ'.gd=true/\bi (bK I C.B) w τ' ze g4 f1/\c∈f1)\/∃i∈S2,∃u,az st.h i=some u/\c∈fp i):jR w b bL (bL+τ'.size)/\∃rtn fpn,cc C ⟨kill (id::S2) [(id,p)] st.g,(id,⟨t.1,ht⟩)::del (id::S2) st.h⟩ bY (w.setCells b bL b3) I rtn fpn:=by obtain⟨J,rtn,fpn,R,_⟩:=ar.aua af ag hs aB eh tc rX;exact⟨J,rtn,fpn,R⟩
inductive BH where
 |d2 (s:ba)
 |part (α:Type) (iV:α->Prop) (f:α->ba)
 |bad
def BH.K (r:BH) (Q:ba->Prop):Prop:=
 match r with
 |.d2 s=>Q s
 |.part α iV f=>∃y:α,iV y/\Q (f y)
 |.bad=>False
def dW (E:eI) (C:dZ) (o:Oper) (st:ba) (Q:ba->Prop):Prop:=
 ∀(a:Act) (w:World),f7 C st a.tmps w->∀(next:Act->World->Prop) (X:Exit->Act->World->Prop),(∀cj b2 w',Q cj->b2.defers=a.defers->f7 C cj b2.tmps w'->next b2 w')->o.wp E.P a w next X
variable {Q:ba->Prop}
theorem dW.eval {an:List (Nat×aq)} {d:Nat} (aN:o.dst=some d) (c0:C.ok d) (h:(gr E.tt an st.h (bj st.g) d o.op).K (fun av new=>Q ⟨(d,av)::st.g,new++st.h⟩)):dW E C o st Q:=by
 rintro a w ⟨I,rt,fp,ar⟩ next X ag
 exact(ai0 ar h).wp ar aN c0 (fun av new b2 w' ai jN hr=>ag _ b2 w' ai jN hr)
def vR (h:List (Nat×a1)) (x:aw):Option (Nat×List bw):=
 match x with
 |.addr id p=>some (id,p)
 |.ref id p=>match az h id with
  |some ⟨τ,_⟩=>match el τ p with
   |some (.optr _)=>some (id,p++[.deref])
   |_=>none
  |none=>none
 |_=>none
def MT (
 tt:List (TypeId×aq)) (st:ba) (T:TypeId) (x v:aw):BH:=
 match vR st.h x with
 |none=>.bad
 |some (id,p)=>match az st.h id,az tt T with
  |some ⟨τ,z⟩,some u=>match el τ p with
   |none=>.bad
   |some τ'=>bif bF u τ' then match v with
    |.ref cO eF=>match az st.h cO with
     |some ⟨f2,y⟩=>bif Nat.beq id cO then .bad else
      .part (τ'.den×τ.den) (fun q=>dr f2 y eF τ' q.1/\ea τ z p τ' q.1 q.2) (fun q=>⟨kill [id,cO] [(id,p)] st.g,(id,⟨τ,q.2⟩)::del [id,cO] st.h⟩)
     |none=>.bad
    |.app cO eF σ aS own=>if _e:τ'=.osl σ then
     .part (List σ.den×τ.den) (fun q=>cO=id/\eF=p/\dr τ z p (.osl σ) q.1/\ea τ z p (.osl σ) (q.1++aS) q.2) (fun q=>⟨kill (id::own) [(id,p)] st.g,(id,⟨τ,q.2⟩)::del (id::own) st.h⟩) else .bad
    |v=>match coe τ' v with
     |some y=>.part τ.den (fun hI=>ea τ z p τ' y hI) (fun hI=>⟨kill [id] [(id,p)] st.g,(id,⟨τ,hI⟩)::del [id] st.h⟩)
     |none=>.bad
   else .bad
  |_,_=>.bad
theorem ar7 (ar:cc C st a.tmps w I rt fp) {x:Operand} {id:Nat} {p:List bw} (h:vR st.h (bj st.g x)=some (id,p)) {t:a1} (af:az st.h id=some t) {τ':aq} (fB:el t.1 p=some τ'):∃b bL cs,a.eval x=.pointer (some ⟨b,bL,none⟩)/\bk w t.1 none (rt id) p τ' (some (b,bL)) cs:=by
 have ab:=ar.bj x;unfold vR at h;generalize hv:a.eval x=v at ab;split at h
 ·rename_i fS vP ex;cases h;rw[ex] at ab;cases ab with|addr bx ag=>
  rw[af] at bx;cases bx;have:=ag.ty;rw[fB] at this;cases this;exact⟨_,_,_,rfl,ag⟩
 ·rename_i fS vP ex;split at h
  case h_2=>cases h
  rename_i τ y F8;split at h
  case h_2=>cases h
  rename_i t0 amq;cases h;rw[af] at F8;cases F8;rw[ex] at ab;cases ab with|ref bx ag=>
  rw[af] at bx;cases bx;have:=ag.ty;rw[amq] at this;cases this;obtain⟨b,off,ds,rfl,cJ,cz⟩:=sf (ar.tree id _ af).1 ag;have h6:=ag.append (bk.Ou cJ cz);have:=h6.ty;rw[fB] at this;cases this;exact⟨b,off,ds,rfl,h6⟩
 ·cases h
theorem at9 {T:TypeId} {u τ':aq} (bd:az E.tt T=some u) (ah:bF u τ'=true) {x v:Operand} (aH:o.op=.store T x v) {b bL:Nat} (ab:a.eval x=.pointer (some ⟨b,bL,none⟩)) {cs:List Value} (hv:(a.eval v).cells=cs.toArray) (hc:cs.length=τ'.size) (J:∀v∈cs,v.oneCell'=true) (aF:jR w b bL (bL+τ'.size)):(execOp a.eval o).run E.P w=.ok .skip (w.setCells b bL cs):=by have fB:=(E.ok T u bd).lay ah;have nB:=run_storeCells_cells (P:=E.P) b bL cs 0 w (fun j al=>by simpa using(aF (bL+j) (by omega) (by omega)).1) (fun j al=>by simpa using(aF (bL+j) (by omega) (by omega)).2) J;simp only[pg] at nB;have:(storeVar T ⟨b,bL,none⟩ (a.eval v)).run E.P w=.ok () (w.setCells b bL cs):=(by simp only[storeVar,hv,Sem.run_bind,fB.sizeOf,Result.andThen_ok];simpa[hc] using nB);simp[execOp,aH,ab,Instr.storeAt,Instr.sureAddr,this]
theorem at8 {T:TypeId} {x v:Operand} (aH:o.op=.store T x v) (pC:o.dst=none) (h:(MT E.tt st T (bj st.g x) (bj st.g v)).K Q):dW E C o st Q:=by
 rintro a w ⟨I,rt,fp,ar⟩ next X eb
 have hv:=ar.bj v;unfold MT at h;split at h
 ·exact h.elim
 rename_i id p nz;split at h
 case h_2=>exact h.elim
 rename_i τ z u af bd;split at h
 ·exact h.elim
 rename_i τ' fB;cases ah:bF u τ' with
 |false=>rw[ah] at h;exact h.elim
 |true=>
 rw[ah] at h;simp only[cond_true] at h;obtain⟨b,bL,ze,ab,ag⟩:=ar7 ar nz af fB;have Po:=(E.ok T u bd).lay ah;have fP:∀(b3:List Value) (cj:ba) (rtn:Nat->List Value) (fpn:Nat->List Nat),(a.eval v).cells=b3.toArray->b3.length=τ'.size->(∀v∈b3,v.oneCell'=true)->jR w b bL (bL+τ'.size)->cc C cj a.tmps (w.setCells b bL b3) I rtn fpn->Q cj->o.wp E.P a w next X:=by
  intro b3 cj rtn fpn aC aV b4 fo hr ai;unfold Oper.wp;rw[at9 bd ah aH ab aC aV b4 fo];show next (a.put o.dst undef) _
  rw[pC];exact eb _ _ _ ai rfl ⟨I,rtn,fpn,hr⟩
 split at h
 ·rename_i cO eF h2;split at h
  case h_2=>exact h.elim
  rename_i f2 dL kA;cases aa:Nat.beq id cO with
  |true=>rw[aa] at h;exact h.elim
  |false=>
   rw[aa] at h;obtain⟨⟨y,hI⟩,⟨kx,hs⟩,h⟩:=h;have cL:id≠cO:=fun e=>(by rw[e,wG] at aa;cases aa);rw[h2] at hv;generalize r3:a.eval v=Bc at hv;cases hv with|ref bx iw=>
   rw[kA] at bx;cases bx;obtain⟨bX,bn,a9⟩:=ar.tree cO _ kA;obtain⟨awX,ir,cC,Sq,bu,bE,_,gu,_⟩:=KG eF (τ':=τ') (y:=y) bX (loc:=none) (fun _ _ h=>by cases h) bn (fun _ _ h=>by cases h) (ar.notM kA) kx;obtain⟨rfl,rfl,rfl⟩:=iw.jX bu;have pG:cC.Nodup:=(kO.1 (gu.nodup_iff.1 bn)).1;obtain⟨hC,rtn,fpn,ev⟩:=ar.store af ag hs bE pG (S2:=[cO]) (by simpa using cL) (fun c hc=>.inr ⟨cO,by simp,_,kA,gu.mem_iff.2 (by simp[hc])⟩);exact fP _ _ rtn fpn (by rw[r3];exact sn Po bE.len bE.one) bE.len bE.one hC ev h
 ·rename_i cO eF σ aS own h2;split at h
  case isFalse=>exact h.elim
  rename_i e;subst e;obtain⟨⟨xs,hI⟩,⟨rfl,rfl,aD,hs⟩,h⟩:=h;rw[h2] at hv;generalize r3:a.eval v=Bc at hv;cases hv with|app bx fA iw j2 J j1 R mU fh eh=>
  rw[af] at bx;cases bx;obtain rfl:=dr.uniq aD j2;obtain⟨_,aC,aV⟩:=ag.jX iw;subst aC;subst aV;have alN:(aq.osl σ).gd=true:=fA;obtain⟨hC,rtn,fpn,ev⟩:=ar.store af ag hs R eh (S2:=own) (fun ao=>(mU _ ao).1 rfl) (fun c hc=>by
   rcases fh c hc with q|⟨i,hi,q⟩
   ·exact .inl ⟨_,xs,alN,J,q⟩
   ·obtain⟨_,iG,aQ⟩:=mU i hi;exact .inr ⟨i,hi,iG,aQ,q⟩)
  exact fP _ _ rtn fpn (by rw[r3];have:=sn Po R.len R.one;exact this) R.len R.one hC ev h
 ·split at h
  case h_2=>exact h.elim
  rename_i y aB;obtain⟨hI,hs,h⟩:=h;have bX:=N2 Po hv aB;obtain⟨hC,rtn,fpn,ev⟩:=ar.store af ag hs bX (by simp) (S2:=[]) (by simp) (by simp);exact fP _ _ rtn fpn (by simp) bX.len bX.one hC ev h
end
end
section
theorem KE {α:Type} (l:List (List α)) (lo hi:Nat):((l.take hi).drop lo).flatten.Sublist l.flatten:=by have h:l.flatten=((l.take hi).take lo).flatten++((l.take hi).drop lo).flatten++(l.drop hi).flatten:=(by rw[<-um,pf,<-um,pf]);rw[h];exact(List.sublist_append_right _ _).trans (List.sublist_append_left _ _)
section
variable {E:eI} {C:dZ} {st:ba} {a:Act} {bY:Array Value} {w:World} {I:Nat->Prop} {rt:Nat->List Value} {fp:Nat->List Nat} {o:Oper} {Q:ba->Prop}
def IJ (an:List (Nat×aq)) (st:ba) (d:Nat) (v:aw):BH:=
 match v with
 |.ref id []=>match az st.h id with
  |some t=>.d2 ⟨(d,.ref d [])::kill [id,d] [] st.g,(d,t)::del [id,d] st.h⟩
  |none=>.bad
 |.ref id p=>bif Nat.beq id d then .bad else .d2 ⟨(d,.ref id p)::kill [d] [] st.g,del [d] st.h⟩
 |.view id [] lo hi=>match az st.h id with
  |some ⟨.osl t,xs⟩=>.d2 ⟨(d,.ref d [])::kill [id,d] [] st.g,(d,⟨.osl t,(xs.take hi).drop lo⟩)::del [id,d] st.h⟩
  |_=>.bad
 |.c5 (.slice none 0 0)=>match az an d with
  |some (.osl t)=>.d2 ⟨(d,.ref d [])::kill [d] [] st.g,(d,⟨.osl t,[]⟩)::del [d] st.h⟩
  |_=>.bad
 |_=>.bad
theorem pj.one {w':World} {I':Nat->Prop} {S:List Nat} {d:Nat} {t:a1} {cs:List Value} {f:List Nat} (aN:d∈S\/az st.h d=none) (J:w.heap.size<=w'.heap.size) (R:w'.os=w.os) (ae:w'.tape=w.tape) (aI:w'.output=w.output) (aX:∀b,b<w.heap.size->(∀id∈S,∀t,az st.h id=some t->b∉fp id)->w'.heap[b]?=w.heap[b]?) (PE:∀b,b<w.heap.size->jy w' b=jy w b) (bI:∀b,I b->I' b) (eO:∀b,I' b->I b\/(b<w'.heap.size/\(w.heap.size<=b\/∃id∈S,∃t,az st.h id=some t/\b∈fp id))) (hr:bi (bK I' C.B) w' t.1 cs t.2 f) (aF:f.Nodup) (aa:∀b∈f,¬I' b/\b<w'.heap.size/\(w.heap.size<=b\/∃fS∈S,∃t',az st.h fS=some t'/\b∈fp fS)):pj C st w w' I I' rt fp S [] [(d,t)] (fun _=>cs) (fun _=>f):=by
 refine⟨J,R,ae,aI,aX,fun b aa=>.of_eq (PE b aa),bI,eO,?_,?_,(fun id bh=>by cases bh),(fun id bh=>by cases bh)⟩
 ·intro i u aQ;rw[db] at aQ;split at aQ
  ·rename_i e;subst e;obtain rfl:=ff aQ;exact⟨aN,hr,aF,aa⟩
  ·cases aQ
 ·intro i j u v hi al dz;rw[db] at hi al;split at hi
  ·split at al
   ·rename_i aC aV;exact absurd (aC.symm.trans aV) dz
   ·cases al
  ·cases hi
theorem dW.agw {an:List (Nat×aq)} {x:Operand} {d:Nat} (aH:o.op=.assign x) (aN:o.dst=some d) (c0:C.ok d) (h:(IJ an st d (bj st.g x)).K Q):dW E C o st Q:=by
 rintro a w ⟨I,rt,fp,ar⟩ next X eb
 have ab:=ar.bj x;have eA:(execOp a.eval o).run E.P w=.ok (.value (a.eval x)) w:=(by simp[execOp,aH]);have fP:∀(cj:ba) (rtn:Nat->List Value) (fpn:Nat->List Nat),cc C cj (a.tmps.setIfInBounds d (a.eval x)) w I rtn fpn->Q cj->o.wp E.P a w next X:=by
  intro cj rtn fpn hr ai;unfold Oper.wp;rw[eA];show next (a.put o.dst (a.eval x)) w
  rw[aN];exact eb _ _ _ ai rfl ⟨I,rtn,fpn,hr⟩
 have one:∀(S:List Nat) (t:a1) (cs:List Value) (f:List Nat),d∈S->bi (bK I C.B) w t.1 cs t.2 f->f.Nodup->(∀b∈f,∃fS∈S,∃t',az st.h fS=some t'/\b∈fp fS)->a.eval x=cH t.1 cs->Q ⟨(d,.ref d [])::kill S [] st.g,(d,t)::del S st.h⟩->o.wp E.P a w next X:=by
  intro S t cs f FO hr aF aa hv ai;have aQ:=ar.fZ (pj.one (st:=st) (C:=C) (rt:=rt) (w':=w) (I':=I) (S:=S) (d:=d) (t:=t) (cs:=cs) (f:=f) (.inl FO) (bS _) rfl rfl rfl (fun _ _ _=>rfl) (fun _ _=>rfl) (fun _ h=>h) (fun _ h=>.inl h) hr aF (fun b cM=>by
   obtain⟨i,hi,u,aQ,hB⟩:=aa b cM;obtain⟨aK,aL,a8,bH⟩:=(ar.tree i u aQ).2.2 b hB;exact⟨aK,a8,.inr ⟨i,hi,u,aQ,hB⟩⟩))
  refine fP _ _ _ (aQ.put c0 (av:=.ref d []) ?_) ai;rw[hv];refine .ref (t:=t) (loc:=none) (by rw[k1,db,if_pos rfl];rfl) ?_;rw[L0];exact bk.here
 unfold IJ at h;split at h
 ·rename_i id ex;split at h
  case h_2=>exact h.elim
  rename_i t af;rw[ex] at ab;obtain⟨bX,bn,a9⟩:=ar.tree id t af;refine one [id,d] t (rt id) (fp id) (by simp) bX bn (fun b aa=>⟨id,by simp,t,af,aa⟩) ?_ h;generalize r3:a.eval x=Bc at ab;cases ab with|ref bx ag=>
  rw[af] at bx;cases bx;obtain⟨rfl,rfl,rfl⟩:=bk.fH.1 ag;rfl
 ·rename_i id p _ ex;cases aa:Nat.beq id d with
  |true=>rw[aa] at h;exact h.elim
  |false=>
   rw[aa] at h;have cL:id≠d:=fun e=>(by rw[e,wG] at aa;cases aa);have aQ:=ar.fZ (S:=[d]) (keep:=[]) (new:=[]) (rtn:=rt) (fpn:=fp) (w':=w) (I':=I) ⟨bS _,rfl,rfl,rfl,fun _ _ _=>rfl,fun _ _=>.refl _ _,fun _ h=>h,fun _ h=>.inl h,(fun _ _ h=>by cases h),(fun _ _ _ _ h=>by cases h),(fun _ h=>by cases h),(fun _ h=>by cases h)⟩;refine fP _ _ _ (aQ.put c0 (av:=.ref id p) ?_) h;have:=aQ.bj (a:=a) x;have aV:bj (kill [d] [] st.g) x=.ref id p:=by
    cases x with
    |tmp t=>
     show gt (kill [d] [] st.g) t=_;rw[rQ,show gt st.g t=.ref id p from ex];have:dJ id [d]=false:=by
      cases ao:dJ id [d]
      ·rfl
      ·exact absurd (by simpa using eX.1 ao) cL
     simp[eT,d1,aw.er,aw.ids,this]
    |const v=>exact absurd ex (by cases v<;>simp[bj])
    |global g=>cases ex
    |func f=>cases ex
   rw[<-aV];exact this
 ·rename_i id lo hi ex;split at h
  case h_2=>exact h.elim
  rename_i t xs af;rw[ex] at ab;obtain⟨bX,bn,a9⟩:=ar.tree id _ af;generalize r3:a.eval x=Bc at ab one fP eA;cases ab with|nJ=>(exact one [id,d] ⟨.osl t,[]⟩ [.slice none 0 0] [] (by simp) ⟨none,0,rfl,.inl ⟨rfl,rfl,rfl,rfl⟩⟩ (by simp) (by simp) rfl h)|view bx ag da l2 md=>
  rename_i b off len cap;rw[af] at bx;cases bx;obtain⟨aC,_,b4⟩:=bk.fH.1 ag;cases aC;obtain⟨ad,fy,ax,hr⟩:=bX;rw[b4] at ax;simp only[hh,Value.slice.injEq,and_true] at ax;obtain⟨rfl,rfl,rfl⟩:=ax;rcases hr with⟨aU,_⟩|⟨cP,Rt,dI,aU,nx,aK,aL,a8,bH⟩
  ·cases aU
  cases aU;have dR:((xs.take hi).drop lo).length=hi-lo:=(by simp;omega);refine one [id,d] ⟨.osl t,(xs.take hi).drop lo⟩ [.slice (some ⟨b,if cap=lo then off else off+lo*t.size,none⟩) (hi-lo) (cap-lo)] (b::((dI.take hi).drop lo).flatten) (by simp) ?_ ?_ ?_ rfl h
  ·refine⟨some ⟨b,if cap=lo then off else off+lo*t.size,none⟩,cap-lo,by rw[dR],.inr ⟨b,_,(dI.take hi).drop lo,rfl,rfl,by simp[aK],by simp only[dR];omega,?_,?_⟩⟩
   ·intro j J R;by_cases hc:cap=lo
    ·subst hc;simp at J R;omega
    ·rw[if_neg hc] at J R;have:lo*t.size+(cap-lo)*t.size=cap*t.size:=(by rw[<-iJ];congr 1;omega);exact a8 j (by omega) (by omega)
   ·intro i y f aB aF;have j5:i<hi-lo:=(by rw[<-dR];exact(e9.1 aB).1);rw[ng,oG (by omega)] at aB aF;obtain⟨ds,cJ,cz,cX⟩:=bH (lo+i) y f aB aF;refine⟨ds,cJ,?_,cX⟩;rw[if_neg (by omega)];rwa[show off+lo*t.size+i*t.size=off+(lo+i)*t.size by rw[iJ];omega]
  ·rw[nx] at bn;have fh:((dI.take hi).drop lo).flatten.Sublist dI.flatten:=KE _ _ _;rw[lQ] at bn|-;exact⟨fun ao=>bn.1 (fh.subset ao),bn.2.sublist fh⟩
  ·intro c hc;refine⟨id,by simp,_,af,?_⟩;rw[nx];rcases dV.1 hc with rfl|hc
   ·simp
   ·have fh:((dI.take hi).drop lo).flatten.Sublist dI.flatten:=KE _ _ _;exact f6 _ (fh.subset hc)
 ·rename_i ex;split at h
  case h_2=>exact h.elim
  rename_i t nu;rw[ex] at ab;refine one [d] ⟨.osl t,[]⟩ [.slice none 0 0] [] (by simp) ⟨none,0,rfl,.inl ⟨rfl,rfl,rfl,rfl⟩⟩ (by simp) (by simp) ?_ h;generalize r3:a.eval x=Bc at ab;cases ab;rfl
 ·exact h.elim
end
end
section
inductive nk (σ:aq) where
 |d2 (aS:List σ.den)
 |part (α:Type) (iV:α->Prop) (f:α->List σ.den)
 |bad
def wq (h:List (Nat×a1)) (σ:aq) (y:aw):nk σ:=
 match y with
 |.val (.bJ _ t) aS=>if e:t=σ then .d2 (e▸aS) else .bad
 |.c5 (.slice none 0 0)=>.d2 []
 |.ref id p=>match az h id with
  |some ⟨τ,x⟩=>bif σ.pure then .part (List σ.den) (fun aS=>dr τ x p (.osl σ) aS) (fun aS=>aS) else .bad
  |none=>.bad
 |.view id p lo hi=>match az h id with
  |some ⟨τ,x⟩=>bif σ.pure then .part (List σ.den) (fun aS=>dr τ x p (.osl σ) aS) (fun aS=>(aS.take hi).drop lo) else .bad
  |none=>.bad
 |_=>.bad
def nk.to {σ:aq} (r:nk σ) (g:Nat->Prop) (f:List σ.den->ba):BH:=
 match r with
 |.d2 aS=>.part Unit (fun _=>g aS.length) (fun _=>f aS)
 |.part α iV h=>.part α (fun q=>iV q/\g (h q).length) (fun q=>f (h q))
 |.bad=>.bad
def IH (
 tt:List (TypeId×aq)) (an:List (Nat×aq)) (st:ba) (d:Nat) (T:TypeId) (x y:aw):BH:=
 match fU tt T with
 |none=>.bad
 |some u=>match x with
  |.ref id []=>match az st.h id with
   |some ⟨.osl σ,xs⟩=>bif bF u σ&&Nat.ble σ.size 1300 then
     match σ.pure,y with
     |false,.ref cO []=>match az st.h cO with
      |some ⟨.osl Nh,aS⟩=>if e:Nh=σ then bif Nat.beq id cO then .bad else .part Unit (fun _=>xs.length+aS.length<=gv) (fun _=>⟨(d,.ref d [])::kill [id,cO,d] [] st.g,(d,⟨.osl σ,xs++(e▸aS)⟩)::del [id,cO,d] st.h⟩) else .bad
      |_=>.bad
     |_,y=>(wq st.h σ y).to (fun n=>xs.length+n<=gv) (fun aS=>⟨(d,.ref d [])::kill [id,d] [] st.g,(d,⟨.osl σ,xs++aS⟩)::del [id,d] st.h⟩)
    else .bad
   |_=>.bad
  |.ref id p=>match az st.h id,az st.h d with
   |some ⟨τ,x⟩,none=>match el τ p with
    |some (.osl σ)=>bif bF u σ&&Nat.ble σ.size 1300&&σ.gd then
      match wq st.h σ y with
      |.d2 aS=>.part (List σ.den) (fun xs=>dr τ x p (.osl σ) xs/\xs.length+aS.length<=gv) (fun _=>⟨(d,.app id p σ aS [d])::kill [id] [(id,p),(id,[])] st.g,(d,⟨.dw,()⟩)::(id,⟨τ,x⟩)::del [id] st.h⟩)
      |.part α iV f=>.part (List σ.den×α) (fun q=>dr τ x p (.osl σ) q.1/\iV q.2/\q.1.length+(f q.2).length<=gv) (fun q=>⟨(d,.app id p σ (f q.2) [d])::kill [id] [(id,p),(id,[])] st.g,(d,⟨.dw,()⟩)::(id,⟨τ,x⟩)::del [id] st.h⟩)
      |.bad=>.bad
     else .bad
    |_=>.bad
   |_,_=>.bad
  |.view id [] lo hi=>match az st.h id with
   |some ⟨.osl σ,xs⟩=>bif bF u σ&&Nat.ble σ.size 1300 then
     (wq st.h σ y).to (fun n=>((xs.take hi).drop lo).length+n<=gv) (fun aS=>⟨(d,.ref d [])::kill [id,d] [] st.g,(d,⟨.osl σ,(xs.take hi).drop lo++aS⟩)::del [id,d] st.h⟩)
    else .bad
   |_=>.bad
  |.c5 (.slice none 0 0)=>match az an d with
   |some (.osl σ)=>bif bF u σ&&Nat.ble σ.size 1300 then
     (wq st.h σ y).to (fun n=>n<=gv) (fun aS=>⟨(d,.ref d [])::kill [d] [] st.g,(d,⟨.osl σ,aS⟩)::del [d] st.h⟩)
    else .bad
   |_=>.bad
  |_=>.bad
section
variable {E:eI} {C:dZ} {st:ba} {a:Act} {bY:Array Value} {w:World} {I:Nat->Prop} {rt:Nat->List Value} {fp:Nat->List Nat} {o:Oper} {Q:ba->Prop}
def Ek (I:Nat->Prop) (B:Nat->Prop) (w:World) (σ:aq) (v:Value) (aS:List σ.den):Prop:=
 ∃yd c dG,v=.slice yd aS.length c/\k9 (bK I B) w σ yd aS dG/\dG.flatten=[]
theorem OU {l:List (List Nat)} (h:∀f∈l,f=[]):l.flatten=[]:=by
 induction l with
 |nil=>rfl
 |cons x r aT=>rw[kL,h x (by simp),aT (fun f aF=>h f (f6 _ aF))];rfl
theorem k9.pure {M:du->Nat->Prop} {σ:aq} {ad:Option Addr} {aS:List σ.den} {dG:List (List Nat)} (ay:σ.pure=true) (h:k9 M w σ ad aS dG):dG.flatten=[]:=by
 refine OU (fun f aF=>?_);obtain⟨ah,h⟩:=h;obtain⟨i,hi,rfl⟩:=jk.1 aF;rcases h with rfl|⟨b,o,_,h⟩
 ·simp only[us] at ah;omega
 ·have dP:i<aS.length:=(by omega);obtain⟨ds,_,_,hr⟩:=h i aS[i] dG[i] (by simp) (by simp);exact hr.pure ay
def nk.holds {σ:aq} (r:nk σ) (aS:List σ.den):Prop:=
 match r with
 |.d2 zs=>aS=zs
 |.part α iV f=>∃q:α,iV q/\aS=f q
 |.bad=>False
theorem nk.MY {σ:aq} {r:nk σ} {g:Nat->Prop} {f:List σ.den->ba} (h:(r.to g f).K Q):∃aS,r.holds aS/\g aS.length/\Q (f aS):=by
 unfold nk.to at h;cases r with
 |d2 aS=>obtain⟨_,J,R⟩:=h;exact⟨aS,rfl,J,R⟩
 |part α iV k=>obtain⟨q,⟨J,R⟩,ae⟩:=h;exact⟨k q,⟨q,J,rfl⟩,R,ae⟩
 |bad=>exact h.elim
theorem Bh (ar:cc C st a.tmps w I rt fp) {σ:aq} {y:Operand} {aS:List σ.den} (h:(wq st.h σ (bj st.g y)).holds aS):Ek I C.B w σ (a.eval y) aS:=by
 have aB:=ar.bj y;unfold wq at h;generalize hv:a.eval y=v at aB;split at h
 ·rename_i m t zs i9;split at h
  case isFalse=>exact h.elim
  rename_i e;subst e;obtain rfl:aS=zs:=h;rw[i9] at aB;cases aB with|val r=>
  have AQ:=r;obtain⟨_,ad,cap,rfl,_⟩:=AQ;obtain⟨_,aE⟩:=k9.bJ r;exact⟨ad,cap,_,rfl,aE,by simp⟩
 ·rename_i i9;obtain rfl:aS=[]:=h;rw[i9] at aB;cases aB;exact⟨none,0,[],rfl,⟨rfl,.inl rfl⟩,rfl⟩
 ·rename_i id p i9;split at h
  case h_2=>exact h.elim
  rename_i τ x af;cases ay:σ.pure with
  |false=>rw[ay] at h;exact h.elim
  |true=>
   rw[ay] at h;obtain⟨zs,aD,rfl⟩:=h;rw[i9] at aB;cases aB with|ref bx ag=>
   rw[af] at bx;cases bx;obtain⟨rfl,f,hr,_⟩:=ar.l3 af aD ag;have qF:=hr;obtain⟨ad,cap,rfl,_⟩:=qF;obtain⟨_,_,dG,aE,_⟩:=k9.osl hr;exact⟨ad,cap,dG,rfl,aE,aE.pure ay⟩
 ·rename_i id p lo hi i9;split at h
  case h_2=>exact h.elim
  rename_i τ x af;cases ay:σ.pure with
  |false=>rw[ay] at h;exact h.elim
  |true=>
   rw[ay] at h;obtain⟨zs,aD,rfl⟩:=h;rw[i9] at aB;cases aB with|nJ=>(exact⟨none,0,[],rfl,⟨rfl,.inl rfl⟩,rfl⟩)|view bx ag da l2 md=>
   rename_i b off len cap;rw[af] at bx;cases bx;obtain⟨e,f,hr,_⟩:=ar.l3 af aD ag;cases e;obtain⟨aC,_,dG,aE,_⟩:=k9.osl hr;have dR:((zs.take hi).drop lo).length=hi-lo:=(by simp;omega);show Ek I C.B w σ _ ((zs.take hi).drop lo);refine⟨_,cap-lo,(dG.take hi).drop lo,by rw[dR],⟨by simp[aE.1],?_⟩,?_⟩
   ·obtain⟨ah,aE⟩:=aE;by_cases FW:hi=lo
    ·left;apply pb;omega
    ·right;rcases aE with rfl|⟨cP,bL,e,aE⟩
     ·simp at dR;omega
     ·cases e;refine⟨b,_,rfl,fun i y f aB aF=>?_⟩;have j5:i<hi-lo:=(by rw[<-dR];exact(e9.1 aB).1);rw[ng,oG (by omega)] at aB aF;obtain⟨ds,cJ,cz,cX⟩:=aE (lo+i) y f aB aF;refine⟨ds,cJ,?_,cX⟩;rw[if_neg (by omega)];rwa[show off+lo*σ.size+i*σ.size=off+(lo+i)*σ.size by rw[iJ];omega]
   ·have:=aE.pure ay;have hs:=KE dG lo hi;rw[this] at hs;exact List.sublist_nil.1 hs
 ·exact h.elim
theorem au4 {M:du->Nat->Prop} {t:aq} {b off len cap lo hi:Nat} {xs:List t.den} {f:List Nat} (h:bi M w (.osl t) [.slice (some ⟨b,off,none⟩) len cap] xs f) (eh:f.Nodup) (da:lo<=hi) (l2:hi<=len) (md:len<=cap):∃f1,bi M w (.osl t) [.slice (some ⟨b,if cap=lo then off else off+lo*t.size,none⟩) (hi-lo) (cap-lo)] ((xs.take hi).drop lo) f1/\f1.Nodup/\∀c∈f1,c∈f:=by
 obtain⟨ad,fy,ax,hr⟩:=h;simp only[hh,Value.slice.injEq,and_true] at ax;obtain⟨rfl,rfl,rfl⟩:=ax;rcases hr with⟨aU,_⟩|⟨cP,Rt,dI,aU,rfl,aK,aL,a8,bH⟩
 ·cases aU
 cases aU;have dR:((xs.take hi).drop lo).length=hi-lo:=(by simp;omega);have fh:((dI.take hi).drop lo).flatten.Sublist dI.flatten:=KE _ _ _;refine⟨b::((dI.take hi).drop lo).flatten,⟨some ⟨b,if cap=lo then off else off+lo*t.size,none⟩,cap-lo,by rw[dR],.inr ⟨b,_,(dI.take hi).drop lo,rfl,rfl,by simp[aK],by rw[dR];omega,?_,?_⟩⟩,?_,?_⟩
 ·intro j J R;by_cases hc:cap=lo
  ·subst hc;simp at J R;omega
  ·rw[if_neg hc] at J R;have:lo*t.size+(cap-lo)*t.size=cap*t.size:=(by rw[<-iJ];congr 1;omega);exact a8 j (by omega) (by omega)
 ·intro i y f aB aF;have j5:i<hi-lo:=(by rw[<-dR];exact(e9.1 aB).1);rw[ng,oG (by omega)] at aB aF;obtain⟨ds,cJ,cz,cX⟩:=bH (lo+i) y f aB aF;refine⟨ds,cJ,?_,cX⟩;rw[if_neg (by omega)];rwa[show off+lo*t.size+i*t.size=off+(lo+i)*t.size by rw[iJ];omega]
 ·rw[lQ] at eh|-;exact⟨fun ao=>eh.1 (fh.subset ao),eh.2.sublist fh⟩
 ·intro c hc;rcases dV.1 hc with rfl|hc
  ·simp
  ·exact f6 _ (fh.subset hc)
theorem Uk {T:TypeId} {x y:Operand} (aH:o.op=.call {callee:=.builtin .append,args:=#[x,y],argTypes:=#[T,T]}) {ed:Value} {w':World} (hr:(Builtin.append_ #[T,T] o.type #[a.eval x,a.eval y]).run E.P w=.ok ed w'):(execOp a.eval o).run E.P w=.ok (.value ed) w':=by simp only[execOp,aH,resolve,invoke,builtin,Sem.run_bind,Sem.run_pure,Result.andThen_ok,Eb,eY,List.map_nil,hr]
theorem dW.Eo {T:TypeId} {x y:Operand} {d:Nat} (aH:o.op=.call {callee:=.builtin .append,args:=#[x,y],argTypes:=#[T,T]}) (aN:o.dst=some d) (c0:C.ok d) (ar:cc C st a.tmps w I rt fp) {next:Act->World->Prop} {X:Exit->Act->World->Prop} (eb:∀cj b2 w',Q cj->b2.defers=a.defers->f7 C cj b2.tmps w'->next b2 w') {u σ:aq} (bd:fU E.tt T=some u) (ah:bF u σ=true) (d8:σ.size<=1300) {S:List Nat} (FO:d∈S) {ad:Option Addr} {n cap:Nat} {xs aS:List σ.den} {f1:List Nat} {dG:List (List Nat)} {yd:Option Addr} {c:Nat} (ab:a.eval x=.slice ad n cap) (ame:bi (bK I C.B) w (.osl σ) [.slice ad n cap] xs f1) (j1:f1.Nodup) (K5:∀b∈f1,∃i∈S,∃t,az st.h i=some t/\b∈fp i) (aB:a.eval y=.slice yd aS.length c) (u3:k9 (bK I C.B) w σ yd aS dG) (rX:dG.flatten.Nodup) (WZ:∀b∈dG.flatten,∃i∈S,∃t,az st.h i=some t/\b∈fp i) (K4:∀b∈f1,b∉dG.flatten) (gK:xs.length+aS.length<=gv) (ai:Q ⟨(d,.ref d [])::kill S [] st.g,(d,⟨.osl σ,xs++aS⟩)::del S st.h⟩):o.wp E.P a w next X:=by
 obtain⟨i,It,J,aX,bI⟩:=fU.ok bd;have iO:=bI.lay ah;obtain⟨XU,_,dp,_⟩:=iO.info;have cg:∀i t,az st.h i=some t->∀b∈fp i,b<w.heap.size/\∀m,¬bK I C.B m b:=fun i t af b aa=>⟨((ar.tree i t af).2.2 b aa).2.2.1,ar.notM af b aa⟩;obtain⟨ed,w',cC,bX,bn,_,bD,bW,cE,dB,fj,gO,hd,ij,_,as1⟩:=Ul (P:=E.P) (ty:=o.type) aX iO dp.info d8 ame (c:=c) u3 j1 (fun b aa=>by obtain⟨i,_,t,af,hB⟩:=K5 b aa;exact(cg i t af b hB).2) rX K4 (fun m b ao=>ar.ib b (pQ ao)) (fun b aa=>by obtain⟨i,_,t,af,hB⟩:=K5 b aa;exact(cg i t af b hB).1) (fun b aa=>by obtain⟨i,_,t,af,hB⟩:=WZ b aa;exact(cg i t af b hB).1) gK;have eA:(execOp a.eval o).run E.P w=.ok (.value ed) w':=Uk (E:=E) aH (by rw[ab,aB];exact bX);have akT:∀b∈cC,(∃i∈S,∃t,az st.h i=some t/\b∈fp i)\/(w.heap.size<=b/\b<w'.heap.size):=fun b aa=>by
  rcases bW b aa with h|h|h
  ·exact .inl (K5 b h)
  ·exact .inl (WZ b h)
  ·exact .inr h
 have aQ:=ar.fZ (pj.one (st:=st) (C:=C) (rt:=rt) (w':=w') (I':=I) (S:=S) (d:=d) (t:=⟨.osl σ,xs++aS⟩) (cs:=[ed]) (f:=cC) (.inl FO) cE dB fj gO (fun b aa bB=>hd b aa (fun aF=>by obtain⟨i,hi,t,af,hB⟩:=K5 b aF;exact bB i hi t af hB)) as1 (fun _ h=>h) (fun _ h=>.inl h) bn bD (fun b aa=>by
   rcases akT b aa with⟨i,hi,t,af,hB⟩|⟨bT,bz⟩
   ·obtain⟨aK,aL,a8,bH⟩:=(ar.tree i t af).2.2 b hB;exact⟨aK,by omega,.inr ⟨i,hi,t,af,hB⟩⟩
   ·exact⟨fun cK=>by have:=ar.ib b (.inl cK);omega,bz,.inl bT⟩))
 unfold Oper.wp;rw[eA];show next (a.put o.dst ed) w'
 rw[aN];refine eb _ _ _ ai rfl ⟨I,_,_,aQ.put c0 (av:=.ref d []) ?_⟩;have:ed=cH (.osl σ) [ed]:=rfl;rw[this];refine .ref (t:=⟨.osl σ,xs++aS⟩) (loc:=none) (by rw[k1,db,if_pos rfl];rfl) ?_;rw[L0];exact bk.here
end
end
section
section
variable {E:eI} {C:dZ} {st:ba} {a:Act} {bY:Array Value} {w:World} {I:Nat->Prop} {rt:Nat->List Value} {fp:Nat->List Nat} {o:Oper} {Q:ba->Prop}
theorem Un {T:TypeId} {x y:Operand} {d:Nat} (aH:o.op=.call {callee:=.builtin .append,args:=#[x,y],argTypes:=#[T,T]}) (aN:o.dst=some d) (c0:C.ok d) (ar:cc C st a.tmps w I rt fp) {next:Act->World->Prop} {X:Exit->Act->World->Prop} (eb:∀cj b2 w',Q cj->b2.defers=a.defers->f7 C cj b2.tmps w'->next b2 w') {u σ:aq} (bd:fU E.tt T=some u) (ah:bF u σ=true) (d8:σ.size<=1300) (fA:σ.gd=true) {id:Nat} {p:List bw} (oU:bj st.g x=.ref id p) {τ:aq} {z:τ.den} (af:az st.h id=some ⟨τ,z⟩) (jN:az st.h d=none) {xs aS:List σ.den} (aD:dr τ z p (.osl σ) xs) {S2:List Nat} (aB:∃yd c dG,a.eval y=.slice yd aS.length c/\k9 (bK I C.B) w σ yd aS dG/\dG.flatten.Nodup/\∀b∈dG.flatten,∃i∈S2,∃t,az st.h i=some t/\b∈fp i) (tc:∀i∈S2,i≠id/\∃u,az st.h i=some u) (gK:xs.length+aS.length<=gv) (ai:Q ⟨(d,.app id p σ aS (d::S2))::kill [id] [(id,p),(id,[])] st.g,(d,⟨.dw,()⟩)::(id,⟨τ,z⟩)::del [id] st.h⟩):o.wp E.P a w next X:=by
 obtain⟨i,It,J,aX,bI⟩:=fU.ok bd;have iO:=bI.lay ah;obtain⟨XU,_,dp,_⟩:=iO.info;have ab:=ar.bj x;rw[oU] at ab;generalize xB:a.eval x=Td at ab;cases ab with|ref bx ag=>
 rename_i τ' loc cs;rw[af] at bx;cases bx;simp only at ag;obtain⟨bX,bn,a9⟩:=ar.tree id _ af;obtain⟨dE,Oa,hM,dK,bT,bz,cZ,cU,gD,jZ,nq⟩:=FA p (loc:=none) bX (fun _ _ h=>by cases h) bn (fun _ _ h=>by cases h) (ar.notM af) aD;obtain⟨ep,aC,aV⟩:=ag.jX bT;subst ep;subst aC;subst aV;have pG:=cU.nodup_iff.1 bn;rw[kO] at pG;obtain⟨l7,h6,pF⟩:=pG;obtain⟨ad,cap,rfl,_⟩:=(show bi (bK I C.B) w (.osl σ) cs xs hM from bz);obtain⟨yd,c,dG,Lt,u3,ak8,rX⟩:=aB;have CN:∀b∈hM,b∈fp id:=fun b aa=>cU.mem_iff.2 (by simp[aa]);have cg:∀b∈fp id,b<w.heap.size/\∀m,¬bK I C.B m b:=fun b aa=>⟨(a9 b aa).2.2.1,ar.notM af b aa⟩;have XJ:∀b∈dG.flatten,b<w.heap.size:=fun b aa=>(by obtain⟨i,hi,t,CO,hB⟩:=rX b aa;exact((ar.tree i t CO).2.2 b hB).2.2.1);obtain⟨ed,w',cC,gP,iC,mm,sp,ye,Hy,SA,atw,atx,aba,atv,_,SL⟩:=Ul (P:=E.P) (ty:=o.type) aX iO dp.info d8 bz (c:=c) u3 l7 (fun b aa=>(cg b (CN b aa)).2) ak8 (fun b aa j0=>by
  obtain⟨i,hi,t,CO,hB⟩:=rX b j0;exact ar.dis id i _ t af CO (tc i hi).1.symm b (CN b aa) hB)
  (fun m b ao=>ar.ib b (pQ ao)) (fun b aa=>(cg b (CN b aa)).1) XJ gK
 have eA:(execOp a.eval o).run E.P w=.ok (.value ed) w':=Uk (E:=E) aH (by rw[xB,Lt];exact gP);have kY:∀b∈dK,b<w.heap.size/\b∉hM:=fun b aa=>⟨(cg b (cU.mem_iff.2 (by simp[aa]))).1,fun h=>pF b h b aa rfl⟩;have CL:∀b,(∃m,bK I C.B m b)\/b∈dK->c3 w w' b:=fun b aa=>by
  rcases aa with⟨m,ao⟩|aa
  ·exact atv m b ao
  ·exact .of_heap (aba b (kY b aa).1 (kY b aa).2)
 have akM:∀b bL,loc=some (b,bL)->es w' b bL [.slice ad xs.length cap]:=fun b bL e=>by
  have aa:b∈dK:=by
   rcases gD b bL e with⟨q,h,_⟩|h
   ·cases h
   ·exact h
  exact(cZ b bL e).1.eB (CL b (.inr aa))
 obtain⟨fa,hA,bu,_,bE,_,cl,kn⟩:=jZ w' (bK I C.B) [.slice ad xs.length cap] xs hM z (fun _ _ h=>h) (fun b aa=>by
  have hs:c3 w w' b:=CL b (by
   rcases aa with h|h|⟨bL,h⟩
   ·exact .inl h
   ·exact .inr h
   ·cases h)
  exact⟨fun j _=>(hs.1 j).1,fun j=>(hs.1 j).2,fun j=>by rw[(hs.1 j).1],hs.2⟩) mm (fun _ _=>rfl) akM (ea.same aD)
 obtain rfl:=bE rfl (.inr rfl);have qC:hA.Perm (fp id):=cl.trans cU.symm;have cL:d≠id:=fun e=>(by rw[e,af] at jN;cases jN);have WY:∀b∈cC,b∈hM\/b∈dG.flatten\/(w.heap.size<=b/\b<w'.heap.size):=fun b aa=>ye b aa
 let Fx:=cC.filter fun b=>decide (w.heap.size<=b)
 have PG:∀b∈Fx,w.heap.size<=b/\b<w'.heap.size:=fun b aa=>by
  have cM:=hX.1 aa;have J:w.heap.size<=b:=(by simpa using cM.2);rcases WY b cM.1 with h|h|h
  ·have:=(cg b (CN b h)).1;omega
  ·have:=XJ b h;omega
  ·exact h
 have aQ:=ar.fZ (S:=[id]) (keep:=[(id,p),(id,[])]) (new:=[(d,⟨.dw,()⟩),(id,⟨τ,z⟩)]) (rtn:=fun i=>if i=d then[] else rt id) (fpn:=fun i=>if i=d then Fx else hA) (w':=w') (I':=I) ⟨Hy,SA,atw,atx,fun b aa bB=>aba b aa (fun h=>bB id (by simp) _ af (CN b h)),fun b aa=>.of_eq (SL b aa),fun _ h=>h,fun _ h=>.inl h,(by
   intro i t' hi;rw[db] at hi;split at hi
   ·rename_i e;subst e;cases hi;refine⟨.inr jN,(by simp only[if_true];exact rfl),(by simp only[if_true];exact sp.filter _),fun b aa=>?_⟩;simp only[if_true] at aa;obtain⟨aK,aL⟩:=PG b aa;exact⟨fun cK=>by have:=ar.ib b (.inl cK);omega,aL,.inl aK⟩
   ·rw[db] at hi;split at hi
    ·rename_i _ e;subst e;cases hi;have pH:¬(id=d):=fun e=>cL e.symm;refine⟨.inl (by simp),(by simp only[if_neg pH];exact bu),(by simp only[if_neg pH];rw[qC.nodup_iff];exact bn),fun b aa=>?_⟩;simp only[if_neg pH] at aa;rw[qC.mem_iff] at aa;exact⟨(a9 b aa).1,by have:=(a9 b aa).2.2.1;omega,.inr ⟨id,by simp,_,af,aa⟩⟩
    ·cases hi),(by
   intro i j t1 t2 hi al dz b aa;have qB:∀k t',az [(d,(⟨.dw,()⟩:a1)),(id,⟨τ,z⟩)] k=some t'->k=d\/k=id:=fun k t' ac=>by
    rw[db] at ac;split at ac
    ·rename_i e;exact .inl e.symm
    ·rw[db] at ac;split at ac
     ·rename_i _ e;exact .inr e.symm
     ·cases ac
   have pH:¬(id=d):=fun e=>cL e.symm;rcases qB i t1 hi with rfl|rfl<;>rcases qB j t2 al with rfl|rfl
   ·exact absurd rfl dz
   ·simp only[if_true] at aa;simp only[if_neg pH];rw[qC.mem_iff];intro h;have:=(cg b h).1;have:=(PG b aa).1;omega
   ·simp only[if_neg pH] at aa;simp only[if_true];rw[qC.mem_iff] at aa;intro h;have:=(cg b aa).1;have:=(PG b h).1;omega
   ·exact absurd rfl dz),(by
   intro i hi t' bx;have dP:i=(id,p)\/i=(id,[]):=(by simpa using hi);have J:i.1=id:=by rcases dP with rfl|rfl<;>rfl
   have bx:az st.h id=some t':=(by rw[<-J];exact bx);rw[af] at bx;obtain rfl:=ff bx;have pH:¬(id=d):=fun e=>cL e.symm;refine⟨⟨τ,z⟩,by rw[J,db,if_neg cL,db,if_pos rfl],rfl,by rw[J];simp only[if_neg pH],(by rcases dP with rfl|rfl;exact⟨_,ag.ty⟩;exact⟨τ,by cases τ<;>rfl⟩),fun q _ _ _ ac ai=>?_⟩;rcases dP with rfl|rfl
   ·exact kn.2 q _ _ _ ac ai
   ·rw[LJ] at ac;cases ac),(by
   intro i hi t' bx q f2 Tg l2 cd ajs aN fA h6 h5 e2;have dP:i=(id,p)\/i=(id,[]):=(by simpa using hi);rcases dP with rfl|rfl
   ·rw[af] at bx;obtain rfl:=ff bx;have pH:¬(id=d):=fun e=>cL e.symm;refine⟨⟨τ,z⟩,by rw[db,if_neg cL,db,if_pos rfl],h5,fun c hc=>?_⟩;obtain⟨aK,aL⟩:=nq q _ _ _ _ _ aN (by exact fA) h5 h6 e2 c hc;exact⟨by simp only[if_neg pH];exact qC.mem_iff.2 (cU.mem_iff.2 (oH _ aK)),CL c (.inr aK)⟩
   ·rw[zx] at aN;cases aN)⟩
 unfold Oper.wp;rw[eA];show next (a.put o.dst ed) w'
 rw[aN];refine eb _ _ _ ai rfl ⟨I,_,_,aQ.put c0 (av:=.app id p σ aS (d::S2)) ?_⟩;have pH:¬(id=d):=fun e=>cL e.symm;have da:az ([(d,(⟨.dw,()⟩:a1)),(id,⟨τ,z⟩)]++del [id] st.h) id=some ⟨τ,z⟩:=(by rw[k1,db,if_neg cL,db,if_pos rfl];rfl);have l2:az ([(d,(⟨.dw,()⟩:a1)),(id,⟨τ,z⟩)]++del [id] st.h) d=some ⟨.dw,()⟩:=(by rw[k1,db,if_pos rfl];rfl);have ie:az [(d,(⟨.dw,()⟩:a1)),(id,⟨τ,z⟩)] id=some ⟨τ,z⟩:=(by rw[db,if_neg cL,db,if_pos rfl]);have fc:az [(d,(⟨.dw,()⟩:a1)),(id,⟨τ,z⟩)] d=some ⟨.dw,()⟩:=(by rw[db,if_pos rfl]);have ajK:d9 [(d,(⟨.dw,()⟩:a1)),(id,⟨τ,z⟩)] (fun i=>if i=d then Fx else hA) fp id=hA:=(by simp only[d9,ie,if_neg pH]);have ajJ:d9 [(d,(⟨.dw,()⟩:a1)),(id,⟨τ,z⟩)] (fun i=>if i=d then Fx else hA) fp d=Fx:=(by simp only[d9,fc,if_true]);have atl:d9 [(d,(⟨.dw,()⟩:a1)),(id,⟨τ,z⟩)] (fun i=>if i=d then[] else rt id) rt id=rt id:=(by simp only[d9,ie,if_neg pH]);have Lg:bk w' τ none (rt id) p (.osl σ) loc [.slice ad xs.length cap]:=kn.1;refine .app (t:=⟨τ,z⟩) da fA (by rw[atl];exact Lg) aD mm (fun b aa=>by rw[ajK,qC.mem_iff];exact CN b aa) iC ?_ ?_ sp
 ·intro i hi;rcases dV.1 hi with rfl|hi
  ·exact⟨cL,_,l2⟩
  ·obtain⟨aK,iG,aL⟩:=tc i hi;have xn:¬(d=i):=fun e=>(by rw[<-e,jN] at aL;cases aL);refine⟨aK,iG,?_⟩;rw[k1,db,if_neg xn,db,if_neg (fun e=>aK e.symm),m1,if_neg (by simpa using aK),aL];rfl
 ·intro b aa;rcases WY b aa with h|h|h
  ·exact .inl h
  ·obtain⟨i,hi,t,CO,hB⟩:=rX b h;obtain⟨aK,_⟩:=tc i hi;have xn:¬(d=i):=fun e=>(by rw[<-e,jN] at CO;cases CO);have iS:az [(d,(⟨.dw,()⟩:a1)),(id,⟨τ,z⟩)] i=none:=(by rw[db,if_neg xn,db,if_neg (fun e=>aK e.symm)];rfl);exact .inr ⟨i,f6 _ hi,by simp only[d9,iS];exact hB⟩
  ·exact .inr ⟨d,by simp,by rw[ajJ];exact hX.2 ⟨aa,by simpa using h.1⟩⟩
theorem Um {T:TypeId} {x y:Operand} {d:Nat} (aH:o.op=.call {callee:=.builtin .append,args:=#[x,y],argTypes:=#[T,T]}) (aN:o.dst=some d) (c0:C.ok d) (ar:cc C st a.tmps w I rt fp) {next:Act->World->Prop} {X:Exit->Act->World->Prop} (eb:∀cj b2 w',Q cj->b2.defers=a.defers->f7 C cj b2.tmps w'->next b2 w') {u σ:aq} (bd:fU E.tt T=some u) (ah:bF u σ=true) (d8:σ.size<=1300) (fA:σ.gd=true) {id:Nat} {p:List bw} (oU:bj st.g x=.ref id p) {τ:aq} {z:τ.den} (af:az st.h id=some ⟨τ,z⟩) (jN:az st.h d=none) {xs aS:List σ.den} (aD:dr τ z p (.osl σ) xs) (aB:Ek I C.B w σ (a.eval y) aS) (gK:xs.length+aS.length<=gv) (ai:Q ⟨(d,.app id p σ aS [d])::kill [id] [(id,p),(id,[])] st.g,(d,⟨.dw,()⟩)::(id,⟨τ,z⟩)::del [id] st.h⟩):o.wp E.P a w next X:=by obtain⟨yd,c,dG,J,R,ae⟩:=aB;exact Un (S2:=[]) aH aN c0 ar eb bd ah d8 fA oU af jN aD ⟨yd,c,dG,J,R,by rw[ae];exact .nil,by rw[ae];simp⟩ (by simp) gK ai
end
end
section
section
variable {E:eI} {C:dZ} {st:ba} {o:Oper} {Q:ba->Prop}
theorem dW.app {an:List (Nat×aq)} {T:TypeId} {x y:Operand} {d:Nat} (aH:o.op=.call {callee:=.builtin .append,args:=#[x,y],argTypes:=#[T,T]}) (aN:o.dst=some d) (c0:C.ok d) (h:(IH E.tt an st d T (bj st.g x) (bj st.g y)).K Q):dW E C o st Q:=by
 rintro a w ⟨I,rt,fp,ar⟩ next X eb
 have ab:=ar.bj x;unfold IH at h;split at h
 ·exact h.elim
 rename_i u bd;split at h
 ·rename_i id ex;split at h
  case h_2=>exact h.elim
  rename_i σ xs af;cases aa:(bF u σ&&Nat.ble σ.size 1300) with
  |false=>rw[aa] at h;exact h.elim
  |true=>
  rw[aa] at h;simp only[bM] at aa;obtain⟨ah,d8⟩:=aa;have d8:=fw d8;simp only[cond_true] at h;rw[ex] at ab;generalize xB:a.eval x=Td at ab;cases ab with|ref bx ag=>
  rw[af] at bx;cases bx;obtain⟨aC,_,b4⟩:=bk.fH.1 ag;subst aC;subst b4;obtain⟨bX,bn,a9⟩:=ar.tree id _ af;obtain⟨ad,cap,rW,_⟩:=(show bi (bK I C.B) w (.osl σ) (rt id) xs (fp id) from bX);have XC:a.eval x=.slice ad xs.length cap:=(by rw[xB];show(rt id).headD undef=_;rw[rW];rfl);have Dt:bi (bK I C.B) w (.osl σ) [.slice ad xs.length cap] xs (fp id):=(by rw[<-rW];exact bX);split at h
  ·rename_i cO ay i9;split at h
   case h_2=>exact h.elim
   rename_i Nh aS kA;split at h
   case isFalse=>exact h.elim
   rename_i e;subst e;cases l5:Nat.beq id cO with
   |true=>rw[l5] at h;exact h.elim
   |false=>
   rw[l5] at h;have cL:id≠cO:=fun e=>(by rw[e,wG] at l5;cases l5);obtain⟨_,gK,h⟩:=h;have aB:=ar.bj y;rw[i9] at aB;generalize vf:a.eval y=aw7 at aB;cases aB with|ref Xu h6=>
   rw[kA] at Xu;cases Xu;obtain⟨aC,_,b4⟩:=bk.fH.1 h6;subst aC;subst b4;obtain⟨gP,iC,mm⟩:=ar.tree cO _ kA;obtain⟨T1,NV,WQ,_⟩:=(show bi (bK I C.B) w (.osl Nh) (rt cO) aS (fp cO) from gP);have amy:a.eval y=.slice T1 aS.length NV:=(by rw[vf];show(rt cO).headD undef=_;rw[WQ];rfl);have atu:bi (bK I C.B) w (.osl Nh) [.slice T1 aS.length NV] aS (fp cO):=(by rw[<-WQ];exact gP);obtain⟨_,_,dG,aE,j1,lw,_⟩:=k9.osl atu;exact dW.Eo aH aN c0 ar eb bd ah d8 (S:=[id,cO,d]) (by simp) XC Dt bn (fun b aa=>⟨id,by simp,_,af,aa⟩) amy aE (lw iC) (fun b aa=>⟨cO,by simp,_,kA,j1 b aa⟩) (fun b aa cM=>ar.dis id cO _ _ af kA cL b aa (j1 b cM)) gK h
  ·obtain⟨aS,gE,gK,h⟩:=nk.MY h;obtain⟨yd,c,dG,vf,aE,aF⟩:=Bh ar gE;exact dW.Eo aH aN c0 ar eb bd ah d8 (S:=[id,d]) (by simp) XC Dt bn (fun b aa=>⟨id,by simp,_,af,aa⟩) vf aE (by rw[aF];simp) (by rw[aF];simp) (by rw[aF];simp) gK h
 ·rename_i id p z8 ex;split at h
  case h_2=>exact h.elim
  rename_i τ z af jN;split at h
  case h_2=>exact h.elim
  rename_i σ fB;cases aa:(bF u σ&&Nat.ble σ.size 1300&&σ.gd) with
  |false=>rw[aa] at h;exact h.elim
  |true=>
  rw[aa] at h;simp only[bM] at aa;obtain⟨⟨ah,d8⟩,fA⟩:=aa;have d8:=fw d8;simp only[cond_true] at h;split at h
  ·rename_i aS gE;obtain⟨xs,⟨aD,gK⟩,h⟩:=h;exact Um aH aN c0 ar eb bd ah d8 fA ex af jN aD (Bh ar (by rw[gE];exact rfl)) gK h
  ·rename_i α iV f gE;obtain⟨⟨xs,q⟩,⟨aD,amL,gK⟩,h⟩:=h;exact Um aH aN c0 ar eb bd ah d8 fA ex af jN aD (Bh ar (by rw[gE];exact⟨q,amL,rfl⟩)) gK h
  ·exact h.elim
 ·rename_i id lo hi ex;split at h
  case h_2=>exact h.elim
  rename_i σ xs af;cases aa:(bF u σ&&Nat.ble σ.size 1300) with
  |false=>rw[aa] at h;exact h.elim
  |true=>
  rw[aa] at h;simp only[bM] at aa;obtain⟨ah,d8⟩:=aa;have d8:=fw d8;simp only[cond_true] at h;rw[ex] at ab;obtain⟨bX,bn,a9⟩:=ar.tree id _ af;generalize xB:a.eval x=Td at ab;cases ab with|nJ=>(obtain⟨aS,gE,gK,h⟩:=nk.MY h;obtain⟨yd,c,dG,vf,aE,aF⟩:=Bh ar gE;exact dW.Eo aH aN c0 ar eb bd ah d8 (S:=[id,d]) (by simp) (xs:=[]) (f1:=[]) xB ⟨none,0,rfl,.inl ⟨rfl,rfl,rfl,rfl⟩⟩ (by simp) (by simp) vf aE (by rw[aF];simp) (by rw[aF];simp) (by simp) (by simpa using gK) (by simpa using h))|view bx ag da l2 md=>
  rename_i b off len cap;rw[af] at bx;cases bx;obtain⟨aC,_,b4⟩:=bk.fH.1 ag;cases aC;obtain⟨aS,gE,gK,h⟩:=nk.MY h;obtain⟨yd,c,dG,vf,aE,aF⟩:=Bh ar gE;rw[b4] at bX;obtain⟨f1,aK,aL,a8⟩:=au4 (show bi (bK I C.B) w (.osl σ) _ xs (fp id) from bX) bn da l2 md;have dR:((xs.take hi).drop lo).length=hi-lo:=(by obtain⟨ax,_⟩:=k9.osl (show bi (bK I C.B) w (.osl σ) _ xs (fp id) from bX);simp;omega);exact dW.Eo aH aN c0 ar eb bd ah d8 (S:=[id,d]) (by simp) xB aK aL (fun b aa=>⟨id,by simp,_,af,a8 b aa⟩) vf aE (by rw[aF];simp) (by rw[aF];simp) (by rw[aF];simp) gK h
 ·rename_i ex;split at h
  case h_2=>exact h.elim
  rename_i σ nu;cases aa:(bF u σ&&Nat.ble σ.size 1300) with
  |false=>rw[aa] at h;exact h.elim
  |true=>
  rw[aa] at h;simp only[bM] at aa;obtain⟨ah,d8⟩:=aa;have d8:=fw d8;simp only[cond_true] at h;rw[ex] at ab;generalize xB:a.eval x=Td at ab;cases ab;obtain⟨aS,gE,gK,h⟩:=nk.MY h;obtain⟨yd,c,dG,vf,aE,aF⟩:=Bh ar gE;exact dW.Eo aH aN c0 ar eb bd ah d8 (S:=[d]) (by simp) (xs:=[]) (f1:=[]) xB ⟨none,0,rfl,.inl ⟨rfl,rfl,rfl,rfl⟩⟩ (by simp) (by simp) vf aE (by rw[aF];simp) (by rw[aF];simp) (by simp) (by simpa using gK) (by simpa using h)
 ·exact h.elim
end
end
section
def iK (E:eI) (C:dZ) (bv:Array Oper) (l:List Nat) (st:ba) (Q:ba->Prop):Prop:=
 ∀(a:Act) (w:World),f7 C st a.tmps w->∀rm:Exit->Act->World->Prop,(∀cj b2 w',Q cj->b2.defers=a.defers->f7 C cj b2.tmps w'->rm .normal b2 w')->wpOps E.P bv rm l a w
def lL (bv:Array Oper) (st:ba) (o:Oper) (b:Bool):Prop:=
 match o.guard with
 |none=>b=true
 |some (j,jQ)=>match(bv[j]?).bind (·.dst) with
  |some fO=>match gt st.g fO with
   |.val .bool x=>(x==jQ)=b
   |.c5 (.tuple _)=>b=false
   |_=>False
  |none=>False
section
variable {E:eI} {C:dZ} {st:ba} {bv:Array Oper} {Q:ba->Prop}
theorem lL.ok {a:Act} {w:World} {I:Nat->Prop} {rt:Nat->List Value} {fp:Nat->List Nat} (ar:cc C st a.tmps w I rt fp) {o:Oper} {b:Bool} (h:lL bv st o b):Region.wanted o (yielded bv a.tmps)=b:=by
 unfold lL at h;unfold Region.wanted;split at h
 ·rename_i aD;rw[aD];exact h.symm
 ·rename_i j jQ aD;rw[aD];split at h
  ·rename_i fO te;split at h
   ·rename_i x ab;have:=ar.tmp fO;rw[ab] at this;generalize hv:a.tmps.getD fO undef=v at this;cases this with|val r=>
    obtain⟨_,rfl⟩:=r;have mR:a.tmps[fO]?=some (.bool x):=by
     rw[Ib] at hv;cases ax:a.tmps[fO]? with
     |none=>rw[ax] at hv;cases hv
     |some u=>rw[ax] at hv;simp only[wH] at hv;rw[hv];rfl
    simp only[yielded,te,br,mR];rw[<-h];cases x<;>cases jQ<;>rfl
   ·rename_i l ab;have:=ar.tmp fO;rw[ab] at this;generalize hv:a.tmps.getD fO undef=v at this;cases this;subst h;simp only[yielded,te,br];rw[Ib] at hv;cases ax:a.tmps[fO]? with
    |none=>rfl
    |some u=>rw[ax] at hv;simp only[wH] at hv;rw[hv];rfl
   ·exact h.elim
  ·exact h.elim
theorem iK.nil (h:Q st):iK E C bv [] st Q:=fun a w ar _ ai=>ai st a w h rfl ar
theorem iK.op {i:Nat} {l:List Nat} {o:Oper} (aH:bv[i]?=some o) (hw:lL bv st o true) (h:dW E C o st (fun cj=>iK E C bv l cj Q)):iK E C bv (i::l) st Q:=by intro a w ar rm ai;obtain⟨I,rt,fp,ev⟩:=id ar;simp only[wpOps,aH];rw[hw.ok ev,if_pos rfl];exact .inl (h a w ar _ _ (fun cj b2 w' al aN hr=>al b2 w' hr rm (fun SQ dv e7 R kw e2=>ai SQ dv e7 R (kw.trans aN) e2)))
theorem iK.skip {i d:Nat} {l:List Nat} {o:Oper} (aH:bv[i]?=some o) (aN:o.dst=some d) (c0:C.ok d) (hw:lL bv st o false) (h:iK E C bv l ⟨(d,.c5 undef)::st.g,st.h⟩ Q):iK E C bv (i::l) st Q:=by intro a w ar rm ai;obtain⟨I,rt,fp,ev⟩:=id ar;simp only[wpOps,aH];rw[hw.ok ev,if_neg (by simp),aN];exact h _ w ⟨I,rt,fp,ev.put c0 (.c5 undef)⟩ rm (fun SQ dv e7 R kw e2=>ai SQ dv e7 R kw e2)
theorem f7.EA {bY:Array Value} {w:World} {st cj:ba} (h:f7 C st bY w) (aD:rA cj.g st) (ax:rB cj.h st) (hi:oe cj.g cj.h=true):f7 C cj bY w:=by obtain⟨I,rt,fp,ar⟩:=h;exact⟨I,rt,fp,ar.EA aD ax (oe.get hi)⟩
def c2 (E:eI) (C:dZ) (c:Code) (st:ba) (Q:Exit->ba->Prop):Prop:=
 ∀(a:Act) (w:World),f7 C st a.tmps w->a.defers=[]->c.wp E.P (fun e b2 w'=>∃cj,Q e cj/\f7 C cj b2.tmps w'/\b2.defers=[]) a w
variable {b8:Exit->ba->Prop}
theorem c2.au7 {c:Code} {cj:ba} (aD:rA cj.g st) (ax:rB cj.h st) (hi:oe cj.g cj.h=true) (h:c2 E C c cj b8):c2 E C c st b8:=fun a w ar aN=>h a w (ar.EA aD ax hi) aN
theorem c2.region {id:Nat} (h:iK E C bv (List.range bv.size) st (fun cj=>b8 .normal cj)):c2 E C (.region id bv false) st b8:=
 fun a w ar aN=>wp_region (h a w ar _ (fun cj _a' _w' ai pB hr=>⟨cj,ai,hr,pB.trans aN⟩))
theorem c2.skip (h:b8 .normal st):c2 E C .skip st b8:=fun _ _ ar aN=>wp_skip ⟨st,h,ar,aN⟩
theorem c2.exit {id:Nat} (h:b8 (.exit id) st):c2 E C (.exit id) st b8:=fun _ _ ar aN=>wp_exit ⟨st,h,ar,aN⟩
theorem c2.ret (h:b8 .ret st):c2 E C .ret st b8:=fun _ _ ar aN=>wp_ret ⟨st,h,ar,aN⟩
def atH (E:eI) (C:dZ) (y:Code) (b8:Exit->ba->Prop):Exit->ba->Prop
 |.normal,s=>c2 E C y s b8
 |e,s=>b8 e s
theorem c2.seq {x y:Code} (h:c2 E C x st (atH E C y b8)):c2 E C (.seq x y) st b8:=fun a w ar aN=>by
 refine wp_seq (wp_mono (h a w ar aN) ?_);rintro e b2 w' ⟨cj,J,R,ae⟩;cases e with
 |normal=>exact J b2 w' R ae
 |_=>exact⟨cj,J,R,ae⟩
theorem c2.cond {c:Operand} {x y:Code} {b:Bool} (hc:bj st.g c=.val .bool b) (af:b=true->c2 E C x st b8) (aF:b=false->c2 E C y st b8):c2 E C (.cond c x y) st b8:=by
 rintro a w ⟨I,rt,fp,ar⟩ aN;have:=ar.bj c;rw[hc] at this;generalize hv:a.eval c=v at this;cases this with|val r=>
 obtain⟨_,rfl⟩:=r;exact wp_cond_split hv (fun h=>af h a w ⟨I,rt,fp,ar⟩ aN) (fun h=>aF h a w ⟨I,rt,fp,ar⟩ aN)
def NQ (id:Nat) (b8:Exit->ba->Prop):Exit->ba->Prop
 |.exit j,s=>match Nat.beq j id with
  |true=>b8 .normal s
  |false=>b8 (.exit j) s
 |e,s=>b8 e s
theorem c2.block {id:Nat} {c:Code} (h:c2 E C c st (NQ id b8)):c2 E C (.block id c) st b8:=fun a w ar aN=>by
 refine wp_block (wp_mono (h a w ar aN) ?_);rintro e b2 w' ⟨cj,J,R,ae⟩;cases e with
 |exit j=>
  simp only[Exit.inBlock];simp only[NQ] at J;by_cases al:j=id
  ·subst al;rw[wG] at J;rw[if_pos rfl];exact⟨cj,J,R,ae⟩
  ·have:Nat.beq j id=false:=by
    cases aa:Nat.beq j id
    ·rfl
    ·exact absurd (eZ aa) al
   rw[this] at J;rw[if_neg al];exact⟨cj,J,R,ae⟩
 |_=>exact⟨cj,J,R,ae⟩
def ko {σ ρ:Type} (f:σ->Option (σ⊕ρ)):Nat->σ->Option ρ
 |0,_=>none
 |n+1,s=>match f s with
  |none=>none
  |some (.inl s')=>ko f n s'
  |some (.inr r)=>some r
open Classical in
def loop {σ ρ:Type} (f:σ->Option (σ⊕ρ)) (s:σ):Option ρ:=
 if h:∃r,∃n,ko f n s=some r then some h.choose else none
theorem QT {σ ρ:Type} {f:σ->Option (σ⊕ρ)}:∀{n m:Nat} {s:σ} {r:ρ},n<=m->ko f n s=some r->ko f m s=some r
 |0,_,_,_,_,h=>by cases h
 |n+1,0,_,_,h,_=>by omega
 |n+1,m+1,s,r,ah,h=>by
  simp only[ko] at h|-;split at h
  ·cases h
  ·exact QT (by omega) h
  ·exact h
theorem GP {σ ρ:Type} {f:σ->Option (σ⊕ρ)} {s:σ} {r:ρ}:loop f s=some r↔∃n,ko f n s=some r:=by
 unfold loop;constructor
 ·intro h;split at h
  ·rename_i ax;obtain⟨n,ag⟩:=ax.choose_spec;exact⟨n,by rw[ag];exact h⟩
  ·cases h
 ·rintro⟨n,ag⟩;have ax:∃r,∃n,ko f n s=some r:=⟨r,n,ag⟩;rw[dif_pos ax];obtain⟨m,ao⟩:=ax.choose_spec;have J:=QT (Nat.le_max_left n m) ag;have R:=QT (Nat.le_max_right n m) ao;rw[J] at R;exact R.symm
theorem anQ {σ ρ:Type} (f:σ->Option (σ⊕ρ)) (s:σ):loop f s=match f s with
 |none=>none
 |some (.inl s')=>loop f s'
 |some (.inr r)=>some r:=by
 apply Option.ext;intro r;rw[GP];cases aF:f s with
 |none=>
  simp only[reduceCtorEq,iff_false];rintro⟨n,ag⟩;cases n with
  |zero=>cases ag
  |succ n=>simp only[ko,aF] at ag;cases ag
 |some o=>
  cases o with
  |inl s'=>
   simp only;rw[GP];constructor
   ·rintro⟨n,ag⟩;cases n with
    |zero=>cases ag
    |succ n=>simp only[ko,aF] at ag;exact⟨n,ag⟩
   ·rintro⟨n,ag⟩;exact⟨n+1,by simp only[ko,aF];exact ag⟩
  |inr r'=>
   simp only;constructor
   ·rintro⟨n,ag⟩;cases n with
    |zero=>cases ag
    |succ n=>simp only[ko,aF] at ag;exact ag
   ·intro h;exact⟨1,by simp only[ko,aF];exact h⟩
theorem c2.loop {σ ρ aR:Type} {c:Code} (lY:σ->ba) {f:σ->Option (σ⊕ρ)} {ka:σ} {k:ρ->Option aR} {res:aR} (h:(loop f ka).bind k=some res) (aD:rA (lY ka).g st) (ax:rB (lY ka).h st) (hi:oe (lY ka).g (lY ka).h=true) (akO:∀s o,f s=some o->(match o with|.inl _=>True|.inr r=>k r=some res)->c2 E C c (lY s) (fun e cj=>match o with
  |.inl s'=>e=.normal/\rA (lY s').g cj/\rB (lY s').h cj/\oe (lY s').g (lY s').h=true
  |.inr _=>(e=.normal->False)/\b8 e cj)):c2 E C (.loop c) st b8:=by
 obtain⟨r,hr,ac⟩:=dk.1 h;obtain⟨n,ag⟩:=GP.1 hr;have key:∀(n:Nat) (s:σ) (a:Act) (w:World),ko f n s=some r->f7 C (lY s) a.tmps w->a.defers=[]->∀(b:Frame) (k:List Item) (cs:List Frame),
  ∃e b2 w',(∃cj,b8 e cj/\f7 C cj b2.tmps w'/\b2.defers=[])/\Arrives E.P (lone (b.at a (.code c::.inLoop c::k)) cs w) b k cs e b2 w':=by
  intro n
  induction n with
  |zero=>intro s a w ag;cases ag
  |succ n aT=>
   intro s a w ag ar aN b cN cs;simp only[ko] at ag;cases aF:f s with
   |none=>rw[aF] at ag;cases ag
   |some o=>
    rw[aF] at ag;have aa:=akO s o aF (by
     cases o with
     |inl s'=>trivial
     |inr r'=>simp only at ag;cases ag;exact ac)
    obtain⟨e,BM,DM,⟨HH,ai,lx,l6⟩,xk⟩:=aa a w ar aN b (.inLoop c::cN) cs;cases o with
    |inl s'=>
     simp only at ag ai;obtain⟨rfl,aK,aL,a8⟩:=ai;obtain⟨ajr,agA,avc,al6,akL⟩:=aT s' BM DM ag (lx.EA aK aL a8) l6 b cN cs;exact⟨ajr,agA,avc,al6,.of_steps (Steps.trans xk (.one step_inLoop)) akL⟩
    |inr r'=>
     obtain⟨cL,ai⟩:=ai;cases e with
     |normal=>exact(cL rfl).elim
     |exit id=>exact⟨_,BM,DM,⟨HH,ai,lx,l6⟩,.pass (x:=.inLoop c) rfl (fun _ _=>.inl (by simp)) xk⟩
     |goto l=>exact⟨_,BM,DM,⟨HH,ai,lx,l6⟩,.pass (x:=.inLoop c) rfl (fun _ _=>.inl (by simp)) xk⟩
     |ret=>exact⟨_,BM,DM,⟨HH,ai,lx,l6⟩,.pass (x:=.inLoop c) rfl (fun _ _=>.inl (by simp)) xk⟩
     |panic av7=>exact⟨_,BM,DM,⟨HH,ai,lx,l6⟩,.pass (x:=.inLoop c) rfl (fun _ _=>.inl (by simp)) xk⟩
     |outgrown=>exact⟨_,BM,DM,⟨HH,ai,lx,l6⟩,.pass (x:=.inLoop c) rfl (fun _ _=>.inl (by simp)) xk⟩
 refine c2.au7 aD ax hi (fun a w ar aN b cN cs=>?_);obtain⟨e,b2,w',ai,xk⟩:=key n ka a w ag ar aN b cN cs;exact⟨e,b2,w',ai,.of_steps (.one step_loop) xk⟩
end
end
end Go.lP
end
