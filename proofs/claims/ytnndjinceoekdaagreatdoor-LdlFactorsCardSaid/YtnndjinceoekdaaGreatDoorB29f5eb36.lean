/-
  Parts of the proof: Fw1, Fw2, Fw3, Fw4, Fw5, Fw6, Fw7, Fw8, Fw40, Fw41, Fw9, Fw10, Fw11, Fw12, Fw13, Fw14, Fw15, Fw16, Fw17, Fw18, Fw19, Fw20: the framework (Fw), pure forms (Dn), plain laws (Pl, Th), calls of functions (Ok).
-/
import Derived.Laws.AppendOwn
import Derived.ArgAppend
import Derived.Laws.IdiomCopy
import Derived.Laws.Cells
import Derived.Laws.MakeOwn
import Derived.Calls
import Derived.Orders
import Derived.Laws.Entries
import Derived.Maps.RangeRun

set_option linter.all false
set_option maxHeartbeats 1000000
open Go renaming TypeId->bF,Operand->bO,World->bC,MapEntry->cm,Exit->b5,IntKind->cw,undef->bW,Program->b0,Field->aiE,sizeOf->ai2,typeInfo->aiM,run_underlying->b8,Oper->bR,execOp->bN,eqGuard->ajb,binOp->ait,resolve->aiW,builtin->ajc,asIntOf->ajo,madeCells->alp,zeroValue->aix,newRow->aiX
open _root_ renaming Nat->X,Array->bU,Option->bv,DecidableEq->alk,List->bm,Int->Z,Bool->bA,Unit->bt,rfl->bn,and_true->b9,False->b6,true_and->ajF,if_true->cj,congrArg->b4,cond_false->bP,cond_true->bG,beq_self_eq_true->aiN,decide_eq_true->aij,decide_eq_false->aiO,decide_eq_true_eq->aiF,dif_pos->ajr
open Option renaming some->Y,none->bo,isSome_none->als,isSome_some->akJ
open Bool renaming true->bp,false->bq
open Go.World renaming cell?_of_block->amh,frozen?_of_block->ami,cell?->ajq,frozen?->akI,setCells->akP,setCell->amt,cell?_setCells_in->akd,cell?_setCells_out->akQ,frozen?_setCells->aly
open Go.MapEntry renaming mk->akz
open Go.Value renaming oneCell'->aiC,int->aiu,map->ajK,agg->amu
open List renaming mem_cons_of_mem->akA,mem_flatten->ajE,mem_of_getElem?->aiw,getElem?_take->akC,count_cons->akD,take_take->amj,all_eq_true->ajm,getElem?_eq_some_iff->aiV,drop_drop->aj3,append_eq_nil_iff->aln,replicate->bJ,range->bI,pairwise_cons->aj8,filter_eq_self->ajH,map_congr_left->aiy,getElem?_inj->akK,getElem?_toArray->alw,map_toArray->akM,map_nil->ajs,foldlM_cons->amp,any_eq_true->amq,getElem?_eq_getElem->bS,mem_append_right->akR,take_append_drop->ajM,getElem_mem->b7,flatten_cons->ajt
open Go.Value.pointer renaming injEq->ajl
open Go.Addr.mk renaming injEq->aiD
open Go.Value.slice renaming injEq->aio
open Iff renaming rfl->akB
open Nat renaming min_self->amk,beq->bH,eq_of_beq_eq_true->ai0,ble->b2,add_comm->aj7,blt->ca,beq_refl->aka,div_lt_iff_lt_mul->akN,div_add_mod->akO,add_assoc->ajL
open Option.some renaming inj->ai1
open ByteArray renaming empty->akE
open Go.Sem renaming run_bind->bY,run_pure->cx
open Go.Result renaming andThen_ok->b1
open Go.Addr renaming add_lit->aja
open Go.Oper renaming wp->ais
open BitVec renaming ofInt->ck
open Decidable renaming decide->br
open Go.Op renaming equalIn->ajn,equal->aj4,maxDepth->aj5,unary->alx
open Go.Builtin renaming len_->alm,delete_->alv,append_->akb,firstCells->amr,lenOf->ams,zeroCells->akc
open Go.Instr renaming loadAt->aml,sureAddr->ajG,sliceBounds->aj6,sliceBound->alo,fill->amm,box->akF,findNow->ajI,sameNow->alr,findKey->aj9,checkKey->amn,mapUpdate->ai3,keyThatStays->ajJ,sameBits->alu,lookup->akL
open Array renaming map->akG,mapM_eq_mapM_toList->alq,eraseIdxIfInBounds->amo,getD_eq_getD_getElem?->alz
open List.Pairwise renaming nil->akH,cons->anz
open Pure renaming pure->ajp
open Go.Region renaming wanted->akS
theorem aa{p:Prop}(h:p:=by omega):p:=h
theorem ab{p:Prop}(h:p:=by decide):p:=h
theorem ac{p:Prop}(h:p:=by simp):p:=h
abbrev au:=@if_pos
abbrev az:=@if_neg
abbrev aD:=@Option.bind_some
abbrev ba:=@List.getElem?_eq_getElem
abbrev bc:=@Nat.le_refl
abbrev bk:=@Bool.and_eq_true
abbrev cQ:=@Nat.lt_or_ge
abbrev cR:=@List.getElem_mem
abbrev da:=@Nat.zero_le
abbrev ez:=@Nat.le_trans
abbrev eO:=@Option.bind_eq_some_iff
abbrev eS:=@Option.some.injEq
abbrev eZ:=@List.mem_map
abbrev e9:=@List.length_map
abbrev fr:=@Int.le_of_lt
abbrev fu:=@Nat.eq_of_beq_eq_true
abbrev fB:=@List.take_of_length_le
abbrev fC:=@Option.map_eq_some_iff
abbrev fJ:=@Int.toNat_natCast
abbrev fQ:=@List.length_take
abbrev fR:=@List.mem_cons
abbrev gh:=@Int.eq_ofNat_of_zero_le
abbrev gp:=@List.mem_singleton
abbrev gC:=@Option.some.inj
abbrev gQ:=@Bool.not_true
abbrev gS:=@Nat.le_of_ble_eq_true
abbrev g0:=@List.all_eq_true
abbrev ht:=@List.mem_filter
abbrev hu:=@List.mem_iff_getElem
abbrev hx:=@List.take_add_one
abbrev hH:=@List.getElem?_eq_some_iff
abbrev hI:=@Nat.min_eq_left
abbrev hN:=@List.cons.injEq
abbrev hO:=@List.ext_getElem?
abbrev hP:=@List.take_length
abbrev hW:=@List.mem_cons_of_mem
abbrev h2:=@List.pairwise_iff_getElem
abbrev h7:=@List.map_congr_left
abbrev h8:=@List.map_cons
abbrev h9:=@List.mem_append
abbrev ie:=@Prod.mk.injEq
abbrev iq:=@List.mem_range
abbrev ir:=@List.nil_append
abbrev iX:=@Int.lt_or_le
abbrev i4:=@List.append_assoc
abbrev i5:=@List.length_cons
abbrev i6:=@List.mem_of_getElem?
abbrev i7:=@List.range_succ
abbrev i9:=@Nat.lt_of_lt_of_le
abbrev ja:=@Option.map_some
abbrev je:=@Bool.or_eq_true
abbrev jh:=@List.getElem?_map
abbrev ji:=@List.map_append
abbrev jj:=@Nat.mul_le_mul_right
abbrev jx:=@Nat.two_pow_pos
abbrev jL:=@Int.mul_le_mul_of_nonneg_left
abbrev jN:=@List.length_append
abbrev jO:=@List.nodup_append
abbrev j3:=@Int.mul_assoc
abbrev kk:=@List.nodup_cons
abbrev kl:=@List.take_append_drop
abbrev kn:=@Nat.pow_add
abbrev kN:=@Int.mul_comm
abbrev kO:=@List.length_filter_le
abbrev li:=@Int.pow_add
abbrev lm:=@List.mem_append_right
abbrev lO:=@Int.emod_add_mul_ediv
abbrev lP:=@List.drop_zero
abbrev lQ:=@List.flatten_cons
abbrev lR:=@List.getD_eq_getElem?_getD
abbrev lS:=@List.mem_flatten
abbrev ma:=@Bool.not_false
abbrev mb:=@Int.ediv_nonneg
abbrev mK:=@List.append_nil
abbrev mL:=@List.filter_eq_self
abbrev mM:=@List.pairwise_cons
abbrev mN:=@Nat.add_mul
abbrev mO:=@Nat.mul_le_mul
abbrev m7:=@Int.mul_le_mul_of_nonneg_right
abbrev m8:=@Int.mul_nonneg
abbrev m9:=@Int.pow_pos
abbrev na:=@List.length_drop
abbrev nb:=@List.length_range
abbrev nc:=@List.mem_cons_self
abbrev nf:=@Nat.add_zero
abbrev ng:=@Nat.one_mul
abbrev nh:=@Nat.zero_add
abbrev nX:=@Int.emod_nonneg
abbrev nY:=@List.cons_append
abbrev nZ:=@List.drop_eq_nil_of_le
abbrev n0:=@List.filter_cons
abbrev oH:=@List.length_nil
abbrev oI:=@List.map_map
abbrev oJ:=@Nat.sub_self
abbrev pj:=@Int.ediv_eq_zero_of_lt
abbrev pk:=@Int.emod_lt_of_pos
abbrev pp:=@List.any_eq_true
abbrev pq:=@List.filter_append
abbrev pt:=@List.filter_congr
abbrev pu:=@List.getElem?_append_right
abbrev pw:=@List.getElem?_drop
abbrev px:=@List.length_singleton
abbrev py:=@List.pairwise_map
abbrev pB:=@Nat.eq_zero_or_pos
abbrev qs:=@Array.mem_append_right
abbrev qw:=@Int.mul_pos
abbrev qx:=@Int.zero_mul
abbrev qy:=@List.drop_drop
abbrev qz:=@List.drop_of_length_le
abbrev qA:=@List.eq_nil_of_length_eq_zero
abbrev qB:=@List.flatMap_append
abbrev qC:=@List.getElem?_append_left
abbrev qD:=@List.getElem?_cons_zero
abbrev qE:=@List.getElem?_eq_none
abbrev qF:=@List.getElem_inj
abbrev qG:=@List.length_eq_one_iff
abbrev qH:=@List.length_replicate
abbrev rT:=@Array.getElem?_eq_some_iff
abbrev rX:=@Int.ediv_lt_of_lt_mul
abbrev rY:=@Int.emod_eq_of_lt
abbrev rZ:=@Int.mul_lt_mul_of_pos_right
abbrev r0:=@List.all_cons
abbrev r1:=@List.drop_append_of_le_length
abbrev r2:=@List.getElem?_take_of_lt
abbrev r3:=@List.map_singleton
abbrev r4:=@List.mem_append_left
abbrev r5:=@Nat.add_sub_cancel_left
abbrev r6:=@Nat.lt_trichotomy
abbrev r7:=@Nat.mul_comm
abbrev r8:=@Option.getD_some
abbrev tD:=@Bool.and_eq_true_iff
abbrev tE:=@Bool.not_eq_true'
abbrev tI:=@Int.ediv_ediv_of_nonneg
abbrev tJ:=@Int.ediv_le_self
abbrev tK:=@List.Pairwise.imp_of_mem
abbrev tL:=@List.any_eq_false
abbrev tM:=@List.count_append
abbrev tN:=@List.filter_sublist
abbrev tO:=@List.perm_iff_count
abbrev tP:=@List.size_toArray
abbrev tQ:=@List.take_append_of_le_length
abbrev tR:=@Nat.div_add_mod
abbrev tS:=@Nat.lt_succ_self
abbrev tT:=@Nat.mul_assoc
abbrev tU:=@Nat.pow_le_pow_right
abbrev tV:=@Nat.pow_succ
abbrev vT:=@Array.replicate_succ
abbrev vU:=@Array.replicate_zero
abbrev vV:=@Bool.eq_iff_iff
abbrev v5:=@Int.add_mul_ediv_left
abbrev v7:=@List.append_toArray
abbrev v8:=@List.drop_eq_getElem_cons
abbrev v9:=@List.getElem?_cons_succ
abbrev wa:=@List.getElem?_set
abbrev wb:=@List.mem_of_mem_take
abbrev wc:=@List.push_toArray
abbrev yr:=@Int.add_mul_emod_self_left
abbrev yt:=@Int.natCast_mul
abbrev yu:=@List.append_of_mem
abbrev yv:=@List.ext_getElem
abbrev yw:=@List.flatten_append
abbrev yx:=@List.getElem_set_ne
abbrev yy:=@List.length_pos_iff
abbrev yz:=@List.mem_take_iff_getElem
abbrev yA:=@List.mem_toArray
abbrev yB:=@List.nodup_range
abbrev yC:=@List.singleton_append
abbrev Bo:=@Array.getElem?_eq_getElem
abbrev Bp:=@Array.getElem?_toList
abbrev Bq:=@Bool.or_eq_true_iff
abbrev Bu:=@Int.lt_of_mul_lt_mul_left
abbrev Bv:=@List.filter_filter
abbrev Bw:=@List.getElem?_range
abbrev Bx:=@List.takeWhile_append_dropWhile
abbrev FO:=@Int.tdiv_eq_ediv_of_nonneg
abbrev FP:=@Int.tmod_eq_emod_of_nonneg
abbrev FU:=@List.filter_cons_of_neg
abbrev FV:=@List.filter_cons_of_pos
abbrev FW:=@List.mem_of_find?_eq_some
abbrev FX:=@Option.isSome_iff_exists
abbrev di:=List (Int×(Int×(List Int×(Int×Unit))))×(Option (List (Int×(Int×(List Int×(Int×Unit)))))×Option (List Int)×Unit)×Unit
abbrev dk:=(List (List Int)×Unit)×List (Int×(Int×(List Int×(Int×Unit))))×Unit
abbrev dm:=List (Int×(Int×(List Int×(Int×Unit))))×(Option Int×Unit)×Unit
abbrev dn:=(List (List Int)×Unit)×(List (List Int)×Unit)×List Int×Unit
abbrev dp:=(Int×List Int×Unit)⊕((List Int×Unit)⊕(List Int×Bool×Unit))
abbrev dq:=(List Int×Unit)⊕((Int×List Int×Unit)⊕(Unit⊕(Int×Unit)))
abbrev dr:=Int×(List (List Int)×Unit)×(List (List Int)×Unit)×Unit
abbrev dt:=(List (List Int)×Unit)×(List (List Int)×Unit)×Unit
abbrev du:=List Int×(Option (List (List Int)×Unit)×Unit)×Unit
abbrev dv:=(Int×Unit)⊕(Unit⊕((Int×Unit)⊕(Unit⊕(Int×Unit))))
abbrev dw:=Int×(List (List Int)×Unit)×List (List Bool)×Unit
abbrev dx:=List (Int×(Int×(List Int×(Int×Unit))))×Int×Unit
abbrev dy:=(List (List Int)×Unit)×List (List Bool)×Unit
abbrev dz:=Int×(List (List Bool)×(List Bool×Unit))×Unit
abbrev dA:=Unit⊕(Unit⊕((Int×Unit)⊕(Unit⊕(Int×Unit))))
abbrev dB:=(List (List Bool)×(List Bool×Unit))×Unit
abbrev dC:=(Int×List Bool×Unit)⊕(Unit⊕(Bool×Unit))
abbrev dD:=List (Int×(Int×(List Int×(Int×Unit))))
abbrev dE:=(Int×Int×Unit)⊕((Int×Unit)⊕(Int×Unit))
abbrev dG:=(List (List Int)×Unit)×List Int×Unit
abbrev dH:=(List Int×Unit)⊕(List Int×Bool×Unit)
abbrev dI:=Unit⊕((Int×Unit)⊕(Unit⊕(Int×Unit)))
abbrev dJ:=(Int×List Int×Unit)⊕(List Int×Unit)
abbrev dL:=(Int×Int×Unit)⊕(Unit⊕(Bool×Unit))
abbrev dM:=List (List Bool)×(List Bool×Unit)
abbrev dN:=(List (List Int)×Unit)×Int×Unit
abbrev dO:=Int×(Int×(List Int×(Int×Unit)))
abbrev dP:=(Int×Unit)⊕(Unit⊕(Bool×Unit))
abbrev dQ:=(Int×Unit)⊕(Unit⊕(Int×Unit))
abbrev dR:=(List (List Int)×Unit)×Unit
abbrev dS:=Int×List (List Bool)×Unit
abbrev dT:=Int×(List Int×(Int×Unit))
abbrev dU:=List (List Bool)×Unit
abbrev dV:=(Int×Unit)⊕(Int×Unit)
abbrev dW:=List (List Int)×Unit
abbrev dY:=List Int×Bool×Unit
abbrev dZ:=Int×List Bool×Unit
abbrev ea:=List Int×Int×Unit
abbrev eb:=Int×List Int×Unit
abbrev ec:=Nat×Nat×List Nat
abbrev ed:=Unit⊕(Bool×Unit)
abbrev ee:=Unit⊕(Int×Unit)
abbrev ef:=List Bool×Unit
abbrev eg:=Int×Bool×Unit
abbrev eh:=List Int×Unit
abbrev ei:=Bool×Int×Unit
abbrev ej:=Int×Int×Unit
abbrev en:=Bool×Unit
abbrev eo:=Int×Unit
abbrev ep:=Nat×Nat
abbrev er:=List (List Go.Value)
abbrev es:=Option (List Int)
abbrev et:=List (Option Int)
abbrev eu:=List (List Bool)
abbrev ev:=List (List Nat)
abbrev ew:=List (List Int)
abbrev ah5:=Option Go.Operand
abbrev ah6:=Array Go.Value
abbrev ah7:=List Go.TypeId
abbrev ah8:=List Go.Value
abbrev ah9:=Option Int
abbrev aia:=Option Nat
abbrev aib:=List Bool
abbrev aic:=Option en
abbrev aid:=Option eo
abbrev aie:=List Nat
abbrev aif:=List Int
abbrev aig:=List ep
noncomputable section
namespace Go.jg
variable{a x T:bF}{b i:X}{c h:bO}{f m:bC}{g y:ah8}{j:X->Prop}{k:aie}{o:bU cm}{p:X->ah8}{q:X->aie}{s:bv Addr}{t:b5->Act->bC->Prop}{v:cw}{z:ah6}{N S:Type}{Q:bU (X×bO)}{R:Value}
inductive eD where
 |bg
 |de
 deriving alk
variable{e:eD->X->Prop}
inductive ah where
 |int (k:cw)
 |bool
 |str
 |a2 (m:eD) (t:ah)
 |ptr (m:eD) (t:ah)
 |osl (t:ah)
 |optr (t:ah)
 |st (t:ah)
 |pr (a b:ah)
 |nil
 |eK
 |mp (t:ah)
 |fw (m:eD) (t:ah)
 |fn (n:X) (t:ah)
 deriving alk
variable{d r:ah}{l:bm (X×ah)}
def ah.size:ah->X
 |.pr a b=>a.size+b.size
 |.st c=>c.size
 |.nil|.eK=>0
 |_=>1
@[reducible] def ah.den:ah->Type
 |.int _=>Z
 |.bool=>bA
 |.str=>ByteArray
 |.a2 _ a=>bm a.den
 |.ptr _ a=>bv a.den
 |.osl a=>bm a.den
 |.optr a=>a.den
 |.st a=>a.den
 |.pr b c=>b.den×c.den
 |.nil=>bt
 |.eK=>bt
 |.mp a=>bv (bm (Z×a.den)×X)
 |.fw _ a=>bv (bm (Z×a.den)×X)
 |.fn _ a=>a.den
def km {d:Type} (b:bm (Z×X×d)) (c:bm (Z×d)) (g:X):Prop:=
 c.Pairwise (λe f=>e.1<f.1)/\(b.map λa=>(a.1,a.2.2)).Perm c/\(b.map λa=>a.2.1).Nodup/\∀a∈b,a.2.1<g
def cW:ah->ah8->Value
 |.st _,a=>.agg a.toArray
 |_,a=>a.headD bW
def fq (f:bC) (c e:X) (d:ah8):Prop:=∀a b,d[a]?=Y b->f.cell? ⟨c,e+a,bo⟩=Y b
def iC (c:bC) (b e d:X):Prop:=∀a,e<=a->a<d->(c.cell? ⟨b,a,bo⟩).isSome=bp/\c.frozen? ⟨b,a,bo⟩=bq
def iS (d:bC) (a:X):bv (bU cm×X):=match d.heap[a]? with
 |some (.map c b)=>Y (c,b)
 |_=>bo
def c8 (c d:bC) (a:X):Prop:=(∀b,d.cell? ⟨a,b,bo⟩=c.cell? ⟨a,b,bo⟩/\d.frozen? ⟨a,b,bo⟩=c.frozen? ⟨a,b,bo⟩)/\iS d a=iS c a
def c8.refl (a:bC) (b:X):c8 a a b:=⟨λ_=>⟨bn,bn⟩,bn⟩
theorem c8.of_heap (c:m.heap[b]?=f.heap[b]?):c8 f m b:=
 ⟨λd=>⟨amh (a:=⟨b,d,bo⟩) c,ami (a:=⟨b,d,bo⟩) c⟩,by grind [iS]⟩
def kL (j k:bC) (d:X):Prop:=∀f b,iS j d=Y (f,b)->∃g e,iS k d=Y (g,e)/\b<=e/\∀(h:X) (a:cm),g[h]?=Y a->a.born<b->∃(i:X) (c:cm),f[i]?=Y c/\c.key=a.key/\c.born=a.born
def kL.of_eq (e:iS m b=iS f b):kL f m b:=
 λd a h=>⟨d,a,e.trans h,bc _,λi c g _=>⟨i,c,g,bn,bn⟩⟩
def kL.refl (a:bC) (b:X):kL a a b:=.of_eq bn
def kL.of_heap {b c:bC} {a:X} (d:c.heap[a]?=b.heap[a]?):kL b c a:=.of_eq (c8.of_heap d).2
theorem kL.trans {a:bC} (h:kL f m b) (i:kL m a b):kL f a b:=λe c k=>by obtain⟨g,d,j,o,p⟩:=h e c k;obtain⟨n,l,q,r,s⟩:=i g d j;grind
def fq.sm (a:fq f b i g) (d:c8 f m b):fq m b i g:=
 λe h c=>by rw[(d.1 _).1];exact a e h c
def iC.sm {c:X} (d:iC f b c i) (a:c8 f m b):iC m b c i:=
 λh e g=>by rw[(a.1 _).1,(a.1 _).2];exact d h e g
def aS (i:eD->X->Prop) (f:bC):(B:ah)->ah8->B.den->aie->Prop
 |.int z,a,v,d=>d=[]/\a=[.int z v]
 |.bool,a,c,d=>d=[]/\a=[.bool c]
 |.str,a,A,d=>d=[]/\a=[.string A]
 |.a2 s b,a,l,d=>d=[]/\∃k n,a=[.slice k l.length n]/\l.length<=n/\(k=bo->n=0)/\(l=[]\/∃c h,k=Y ⟨c,h,bo⟩/\i s c/\∀j g,l[j]?=Y g->∃e,e.length=b.size/\fq f c (h+j*b.size) e/\aS i f b e g [])
 |.ptr s b,a,g,d=>d=[]/\match g with
  |none=>a=[.pointer bo]
  |some w=>∃c h e,a=[.pointer (Y ⟨c,h,bo⟩)]/\i s c/\e.length=b.size/\fq f c h e/\aS i f b e w []
 |.osl b,a,l,d=>∃k n,a=[.slice k l.length n]/\((
   k=bo/\l=[]/\n=0/\d=[])\/∃(c h:X) (t:ev),k=Y ⟨c,h,bo⟩/\d=c::t.flatten/\t.length=l.length/\l.length<=n/\
   iC f c h (h+n*b.size)/\∀j g r,l[j]?=Y g->t[j]?=Y r->∃e,e.length=b.size/\fq f c (h+j*b.size) e/\aS i f b e g r)
 |.optr b,a,w,d=>∃c h r e,a=[.pointer (Y ⟨c,h,bo⟩)]/\d=c::r/\e.length=b.size/\fq f c h e/\iC f c h (h+b.size)/\aS i f b e w r
 |.st b,a,g,d=>aS i f b a g d
 |.pr k c,a,g,d=>∃x f2,d=x++f2/\aS i f k (a.take k.size) g.1 x/\aS i f c (a.drop k.size) g.2 f2
 |.nil,a,_,d=>d=[]/\a=[]
 |.eK,a,_,_=>a=[]
 |.mp b,a,g,d=>match g with
  |none=>d=[]/\a=[.map bo]
  |some (u,q)=>∃(c:X) (p:bU cm) (o:bm (Z×X×b.den)),a=[.map (Y c)]/\d=[c]/\km o u q/\iS f c=Y (p,q)/\p.size=o.length/\∀(j:X) (m:Z×X×b.den),o[j]?=Y m->∃e:ah8,e.length=b.size/\p[j]?=Y (akz (.int .i64 m.1) (cW b e) m.2.1)/\aS i f b e m.2.2 []
 |.fw s b,a,g,d=>match g with
  |none=>d=[]/\a=[.map bo]
  |some (u,q)=>∃(c:X) (p:bU cm) (o:bm (Z×X×b.den)),a=[.map (Y c)]/\d=[]/\km o u q/\i s c/\iS f c=Y (p,q)/\p.size=o.length/\∀(j:X) (m:Z×X×b.den),o[j]?=Y m->∃e:ah8,e.length=b.size/\p[j]?=Y (akz (.int .i64 m.1) (cW b e) m.2.1)/\aS i f b e m.2.2 []
 |.fn v b,a,g,d=>d=[]/\∃y:ah8,a=[.func (.func v) #[] y.toArray]/\aS i f b y g []
theorem aS.len {i:eD->X->Prop} {r:bC}:∀{τ:ah} {e:ah8} {b:τ.den} {l:aie},aS i r τ e b l->e.length=τ.size
 |.int _,_,_,_,a=>by rw[a.2];rfl
 |.bool,_,_,_,a=>by rw[a.2];rfl
 |.str,_,_,_,a=>by rw[a.2];rfl
 |.a2 _ _,_,_,_,a=>by obtain⟨_,c,g,a,_⟩:=a;rw[a];rfl
 |.ptr _ _,_,b,_,a=>by
  obtain⟨_,a⟩:=a;cases b with
  |none=>simp only at a;rw[a];rfl
  |some x=>obtain⟨d,v,j,a,_⟩:=a;rw[a];rfl
 |.osl _,_,_,_,a=>by obtain⟨c,g,a,_⟩:=a;rw[a];rfl
 |.optr _,_,_,_,a=>by obtain⟨c,g,s,j,a,_⟩:=a;rw[a];rfl
 |.st f,_,_,_,a=>aS.len (τ:=f) a
 |.pr c d,e,_,_,a=>by obtain⟨t,f2,_,m,n⟩:=a;have o:=aS.len (τ:=c) m;have p:=aS.len (τ:=d) n;simp only[fQ,na] at o p;show e.length=c.size+d.size;omega
 |.nil,_,_,_,a=>by rw[a.2];rfl
 |.eK,_,_,_,a=>by rw[show _=[] from a];rfl
 |.mp f,_,b,_,a=>by
  cases b with
  |none=>rw[a.2];rfl
  |some q=>obtain⟨d,k,h,a,_⟩:=a;rw[a];rfl
 |.fw u f,_,b,_,a=>by
  cases b with
  |none=>rw[a.2];rfl
  |some q=>obtain⟨d,k,h,a,_⟩:=a;rw[a];rfl
 |.fn _ _,_,_,_,a=>by obtain⟨_,w,a,_⟩:=a;rw[a];rfl
theorem aS.one {j:eD->X->Prop} {r:bC}:∀{τ:ah} {cs:ah8} {c:τ.den} {l:aie},aS j r τ cs c l->∀e∈cs,e.oneCell'=bp
 |.int _,_,_,_,a=>by rw[a.2];simp[aiC]
 |.bool,_,_,_,a=>by rw[a.2];simp[aiC]
 |.str,_,_,_,a=>by rw[a.2];simp[aiC]
 |.a2 _ _,_,_,_,a=>by obtain⟨_,d,h,a,_⟩:=a;grind [aiC]
 |.ptr _ _,_,c,_,a=>by obtain⟨_,a⟩:=a;grind [aiC]
 |.osl _,_,_,_,a=>by obtain⟨d,h,a,_⟩:=a;grind [aiC]
 |.optr _,_,_,_,a=>by obtain⟨d,h,f,s,a,_⟩:=a;grind [aiC]
 |.st t,_,_,_,a=>aS.one (τ:=t) a
 |.pr d g,cs,_,_,a=>by
  obtain⟨u,f2,_,m,n⟩:=a;have o:=aS.one (τ:=d) m;have p:=aS.one (τ:=g) n;intro e b;rw[<-kl d.size cs] at b;rcases h9.1 b with b|b
  ·exact o e b
  exact p e b
 |.nil,_,_,_,a=>by rw[a.2];simp
 |.eK,_,_,_,a=>by rw[show _=[] from a];simp
 |.mp t,_,c,_,a=>by
  cases c with
  |none=>rw[a.2];simp[aiC]
  |some q=>obtain⟨g,k,i,a,_⟩:=a;grind [aiC]
 |.fw v t,_,c,_,a=>by
  cases c with
  |none=>rw[a.2];simp[aiC]
  |some q=>obtain⟨g,k,i,a,_⟩:=a;grind [aiC]
 |.fn _ _,_,_,_,a=>by obtain⟨_,w,a,_⟩:=a;grind [aiC]
theorem aS.mono {L M:eD->X->Prop} {B C:bC} (d:∀j b,L j b->M j b/\c8 B C b):∀{τ:ah} {F:ah8} {g:τ.den} {r:aie},aS L B τ F g r->(∀b∈r,c8 B C b)->aS M C τ F g r
 |.int _,_,_,_,a,_=>a
 |.bool,_,_,_,a,_=>a
 |.str,_,_,_,a,_=>a
 |.a2 j m,_,U,_,a,_=>by obtain⟨y,x,E,e,c,k,l⟩:=a;refine⟨y,x,E,e,c,k,l.imp id ?_⟩;rintro⟨b,w,J,i,K⟩;refine⟨b,w,J,(d j b i).1,λv g u=>?_⟩;obtain⟨h,o,p,q⟩:=K v g u;exact⟨h,o,p.sm (d j b i).2,aS.mono d q ac⟩
 |.ptr j m,_,g,_,a,_=>by
  obtain⟨y,a⟩:=a;refine⟨y,?_⟩;cases g with
  |none=>exact a
  |some ad=>
   obtain⟨b,w,h,e,c,k,l,s⟩:=a;exact⟨b,w,h,e,(d j b c).1,k,l.sm (d j b c).2,aS.mono d s ac⟩
 |.osl m,_,U,r,a,f=>by obtain⟨x,E,e,c⟩:=a;refine⟨x,E,e,c.imp id ?_⟩;rintro⟨b,w,O,J,z,S,t,R,K⟩;have i:c8 B C b:=f b (by grind);refine⟨b,w,O,J,z,S,t,R.sm i,λv g H u Q=>?_⟩;obtain⟨h,o,p,q⟩:=K v g H u Q;refine⟨h,o,p.sm i,aS.mono d q (λn t=>f n ?_)⟩;grind [akA,ajE,aiw]
 |.optr m,_,_,_,a,f=>by obtain⟨b,w,H,h,e,c,k,l,s,P⟩:=a;have i:c8 B C b:=f b (by grind);exact⟨b,w,H,h,e,c,k,l.sm i,s.sm i,aS.mono d P (λn t=>f n (by grind))⟩
 |.st m,_,_,_,a,f=>aS.mono (τ:=m) d a f
 |.pr x b,F,_,_,a,f=>by obtain⟨N,f2,z,e,c⟩:=a;exact⟨N,f2,z,aS.mono (τ:=x) d e (λn t=>f n (by rw[z];exact r4 _ t)),aS.mono (τ:=b) d c (λn t=>f n (by rw[z];exact lm _ t))⟩
 |.nil,_,_,_,a,_=>a
 |.eK,_,_,_,a,_=>a
 |.mp m,_,g,r,a,f=>by
  cases g with
  |none=>exact a
  |some A=>
   obtain⟨b,G,D,e,c,I,k,l,s⟩:=a;refine⟨b,G,D,e,c,I,(f b (by rw[c];simp)).2.trans k,l,λv A u=>?_⟩;obtain⟨h,o,p,q⟩:=s v A u;exact⟨h,o,p,aS.mono d q ac⟩
 |.fw j m,_,g,r,a,f=>by
  cases g with
  |none=>exact a
  |some A=>
   obtain⟨b,G,D,e,c,I,i,k,l,s⟩:=a;refine⟨b,G,D,e,c,I,(d j b i).1,(d j b i).2.2.trans k,l,λv A u=>?_⟩;obtain⟨h,o,p,q⟩:=s v A u;exact⟨h,o,p,aS.mono d q ac⟩
 |.fn V m,_,g,r,a,_=>by obtain⟨y,T,e,c⟩:=a;exact⟨y,T,e,aS.mono d c ac⟩
def ah.kD:ah->bA
 |.eK=>bq
 |.a2 _ a|.ptr _ a|.osl a|.optr a|.st a|.mp a|.fw _ a|.fn _ a=>a.kD
 |.pr b c=>b.kD&&c.kD
 |_=>bp
theorem aS.uniq {r:eD->X->Prop} {x:bC}:∀{τ:ah} {p:ah8} {e k:τ.den} {h u:aie},τ.kD=bp->aS r x τ p e h->aS r x τ p k u->h=u
 |.int _,_,_,_,_,_,_,a,b=>a.1.trans b.1.symm
 |.bool,_,_,_,_,_,_,a,b=>a.1.trans b.1.symm
 |.str,_,_,_,_,_,_,a,b=>a.1.trans b.1.symm
 |.a2 _ _,_,_,_,_,_,_,a,b=>a.1.trans b.1.symm
 |.ptr _ _,_,_,_,_,_,_,a,b=>a.1.trans b.1.symm
 |.nil,_,_,_,_,_,_,a,b=>a.1.trans b.1.symm
 |.fn _ _,_,_,_,_,_,_,a,b=>a.1.trans b.1.symm
 |.eK,_,_,_,_,_,d,_,_=>by cases d
 |.fw F g,p,e,k,h,u,_,a,b=>by
  have a0:∀{e:(ah.fw F g).den} {h:aie},aS r x (.fw F g) p e h->h=[]:=λ{e h} a=>by
   cases e with
   |none=>exact a.1
   |some Q=>obtain⟨l,C,y,_,m,_⟩:=a;exact m
  grind
 |.mp g,_,e,k,_,_,_,a,b=>by
  cases e with
  |none=>
   cases k with
   |none=>exact a.1.trans b.1.symm
   |some R=>
    obtain⟨l,C,y,f,_⟩:=b;have:=a.2.symm.trans f;grind
  |some Q=>
   obtain⟨l,C,y,f,m,_⟩:=a;cases k with
   |none=>
    have:=f.symm.trans b.2;grind
   |some R=>
    obtain⟨A,a3,V,i,D,_⟩:=b;grind
 |.st g,_,_,_,_,_,d,a,b=>aS.uniq (τ:=g) d a b
 |.pr z l,_,_,_,_,_,d,a,b=>by simp only[ah.kD,bk] at d;obtain⟨bl,f2,rfl,f,m⟩:=a;obtain⟨bs,bx,rfl,E,v⟩:=b;rw[aS.uniq (τ:=z) d.1 f E,aS.uniq (τ:=l) d.2 m v]
 |.optr g,_,_,_,_,_,d,a,b=>by
  obtain⟨l,O,h,j,f,rfl,E,v,_,L⟩:=a;obtain⟨A,P,a4,n,i,rfl,ce,K,_,M⟩:=b;rw[f] at i;simp only[hN,ajl,eS,aiD,b9] at i;obtain⟨rfl,rfl⟩:=i;obtain rfl:j=n:=by
   apply hO;intro c;rcases cQ c j.length with w|w
   ·have aw:=v c j[c] (by grind);have S:=K c (n[c]'(by omega)) ac
    grind
   grind
  rw[aS.uniq (τ:=g) d L M]
 |.osl g,_,e,k,_,_,d,a,b=>by
  obtain⟨z,am,f,m⟩:=a;obtain⟨ad,an,i,D⟩:=b;rw[f] at i;simp only[hN,aio,b9] at i;obtain⟨rfl,ci,rfl⟩:=i;rcases m with⟨rfl,rfl,rfl,rfl⟩|⟨l,O,s,rfl,rfl,aw,S,cv,T⟩
  ·grind
  rcases D with⟨q,_⟩|⟨A,P,t,q,rfl,co,cs,c1,U⟩
  ·cases q
  simp only[eS,aiD,b9] at q;obtain⟨rfl,rfl⟩:=q;have:s=t:=by
   apply hO;intro c;rcases cQ c e.length with w|w
   ·have aq:s[c]?=Y (s[c]'(by omega)):=ba aa
    have B:t[c]?=Y (t[c]'(by omega)):=ba aa
    obtain⟨j,ap,G,I⟩:=T c e[c] _ (by grind) aq;obtain⟨n,av,H,J⟩:=U c (k[c]'(by omega)) _ ac B
    obtain rfl:j=n:=by
     apply hO;intro o;rcases cQ o j.length with N|N
     ·have c2:=G o j[o] (by grind);have dl:=H o (n[o]'(by omega)) ac
      grind
     grind
    rw[aq,B,aS.uniq (τ:=g) d I J]
   grind
  grind
inductive aZ where
 |idx (i:X)
 |deref
 |unst
 |fst
 |snd
 deriving alk
variable{n:bm aZ}
def eN:(τ:ah)->τ.den->bm aZ->(a:ah)->a.den->Prop
 |τ,d,[],a,b=>∃i:τ=a,i▸d=b
 |.osl e,k,.idx j::c,a,b=>∃f,k[j]?=Y f/\eN e f c a b
 |.optr e,d,.deref::c,a,b=>eN e d c a b
 |.st e,d,.unst::c,a,b=>eN e d c a b
 |.pr g _,d,.fst::c,a,b=>eN g d.1 c a b
 |.pr _ h,d,.snd::c,a,b=>eN h d.2 c a b
 |_,_,_,_,_=>b6
def fa:(τ:ah)->τ.den->bm aZ->(a:ah)->a.den->τ.den->Prop
 |τ,_,[],a,b,e=>∃m:τ=a,m▸e=b
 |.osl g,j,.idx i::c,a,b,n=>∃h f,j[i]?=Y h/\fa g h c a b f/\n=j.set i f
 |.optr g,d,.deref::c,a,b,e=>fa g d c a b e
 |.st g,d,.unst::c,a,b,e=>fa g d c a b e
 |.pr k _,d,.fst::c,a,b,e=>∃f,fa k d.1 c a b f/\e=(f,d.2)
 |.pr _ l,d,.snd::c,a,b,e=>∃f,fa l d.2 c a b f/\e=(d.1,f)
 |_,_,_,_,_,_=>b6
theorem eN.gv {a:d.den} {b:r.den}:eN d a [] r b↔∃c:d=r,c▸a=b:=by cases d<;>exact akB
theorem fa.gv {e a:d.den} {b:r.den}:fa d e [] r b a↔∃c:d=r,c▸a=b:=by cases d<;>exact akB
abbrev Loc:=bv ep
variable{w:Loc}
def aW (k:bC):(τ:ah)->Loc->ah8->bm aZ->(a:ah)->Loc->ah8->Prop
 |τ,i,b,[],a,d,c=>τ=a/\i=d/\b=c
 |.osl g,_,b,.idx m::f,a,d,c=>∃e j n p h,b=[.slice (Y ⟨e,j,bo⟩) n p]/\m<n/\h.length=g.size/\fq k e (j+m*g.size) h/\aW k g (Y (e,j+m*g.size)) h f a d c
 |.optr g,_,b,.deref::f,a,d,c=>∃e j h,b=[.pointer (Y ⟨e,j,bo⟩)]/\h.length=g.size/\fq k e j h/\aW k g (Y (e,j)) h f a d c
 |.st g,i,b,.unst::f,a,d,c=>aW k g i b f a d c
 |.pr l _,i,b,.fst::f,a,d,c=>aW k l i (b.take l.size) f a d c
 |.pr l e,i,b,.snd::f,a,d,c=>aW k e (i.map λo=>(o.1,o.2+l.size)) (b.drop l.size) f a d c
 |_,_,_,_,_,_,_=>b6
theorem fq.eq (c:fq f b i g) (d:fq f b i y) (k:g.length=y.length):g=y:=by
 apply hO;intro a;rcases cQ a g.length with e|e
 ·have h:=c a g[a] (by grind);have j:=d a (y[a]'(by omega)) ac
  grind
 grind
theorem aW.lw {w:bC}:∀{p:bm aZ} {e:ah} {j:Loc} {f:ah8} {u v:ah} {g h:Loc} {q r:ah8},aW w e j f p u g q->aW w e j f p v h r->u=v/\g=h/\q=r
 |[],e,j,f,_,_,_,_,_,_,c,d=>by grind [aW]
 |s::p,e,j,f,_,_,_,_,_,_,c,d=>by
  cases e<;>cases s<;>simp only[aW] at c d
  case osl.idx t i=>
   obtain⟨m,A,E,C,y,aq,_,g,k,n⟩:=c;obtain⟨x,B,F,D,z,b,_,h,l,o⟩:=d;rw[aq] at b;simp only[hN,aio,eS,aiD,b9] at b;obtain⟨⟨rfl,rfl⟩,rfl,rfl⟩:=b;obtain rfl:=k.eq l aa;exact aW.lw n o
  case optr.deref t=>
   obtain⟨m,A,y,aq,g,k,n⟩:=c;obtain⟨x,B,z,b,h,l,o⟩:=d;rw[aq] at b;simp only[hN,ajl,eS,aiD,b9] at b;obtain⟨rfl,rfl⟩:=b;obtain rfl:=k.eq l aa;exact aW.lw n o
  case st.unst t=>exact aW.lw c d
  case pr.fst a m=>exact aW.lw c d
  case pr.snd a m=>exact aW.lw c d
def rV (c d:bC) (f:Loc) (g:X) (b:X):Prop:=
 (∀a,(∀e,f=Y (b,e)->a<e\/e+g<=a)->d.cell? ⟨b,a,bo⟩=c.cell? ⟨b,a,bo⟩)/\
 (∀a,d.frozen? ⟨b,a,bo⟩=c.frozen? ⟨b,a,bo⟩)/\(∀a,(d.cell? ⟨b,a,bo⟩).isSome=(c.cell? ⟨b,a,bo⟩).isSome)/\iS d b=iS c b
def rV.sm (a:rV f m w i b) (e:∀c,w≠Y (b,c)):c8 f m b:=
 ⟨λd=>⟨a.1 d (λc g=>absurd g (e c)),a.2.1 d⟩,a.2.2.2⟩
def rV.MZ {j c:X} (a:rV f m w j b) (g:iC f b c i):iC m b c i:=
 λh d e=>by rw[a.2.1,a.2.2.1];exact g h d e
def pz (c:bC) (e:Loc) (d:ah8) (f:X):Prop:=∀b a,e=Y (b,a)->fq c b a d/\iC c b a (a+f)
theorem fq.take {e:bC} {b d h:X} {c:ah8} (f:fq e b d c):fq e b d (c.take h):=λg i a=>by
 rw[akC] at a;split at a
 ·exact f g i a
 grind
theorem fq.drop {f:bC} {b e a:X} {c:ah8} (g:fq f b e c):fq f b (e+a) (c.drop a):=λh i d=>by rw[pw] at d;have:=g (a+h) i d;grind
theorem fq.append (d:fq f b i g) (e:fq f b (i+g.length) y):fq f b i (g++y):=λh c a=>by
 rw[List.getElem?_append] at a;split at a
 ·exact d h c a
 have:=e _ c a;grind
theorem adk {a:bm N} {d:N} (e:a[b]?=Y d):∃c f,a=c++d::f/\c.length=b:=by obtain⟨g,rfl⟩:=hH.1 e;exact⟨a.take b,a.drop (b+1),by rw[List.getElem_cons_drop,kl],by grind⟩
theorem aW.sm {D:eD->X->Prop} {y C:bC}:∀{x:bm aZ} {τ:ah} {u:Loc} {h:ah8} {z:τ.den} {p:aie} {A:ah} {v:Loc} {n:ah8},aS D y τ h z p->(∀a∈p,c8 y C a)->aW y τ u h x A v n->aW C τ u h x A v n
 |[],τ,_,_,_,_,_,_,_,_,_,b=>by cases τ<;>exact b
 |s::x,τ,u,h,z,p,A,v,n,g,d,b=>by
  cases τ<;>cases s<;>simp only[aW] at b
  case osl.idx t i=>
   obtain⟨a,w,U,F,o,rfl,N,q,f,r⟩:=b;obtain⟨m,Q,e,k⟩:=g;simp only[hN,aio,b9] at e;obtain⟨rfl,rfl,rfl⟩:=e;rcases k with⟨j,_⟩|⟨E,O,K,j,rfl,aw,V,ad,P⟩
   ·cases j
   simp only[eS,aiD,b9] at j;obtain⟨rfl,rfl⟩:=j;obtain⟨I,R,G,H⟩:=P i z[i] (K[i]'(by omega)) (by grind) ac
   obtain rfl:=f.eq G aa;exact⟨a,w,_,F,o,bn,N,q,f.sm (d a ac),aW.sm H (λc l=>d c (hW _ (lS.2 ⟨_,cR aa,l⟩))) r⟩
  case optr.deref t=>
   obtain⟨a,w,o,rfl,q,f,r⟩:=b;obtain⟨E,O,S,I,B,rfl,T,L,_,M⟩:=g;simp only[hN,ajl,eS,aiD,b9] at B;obtain⟨rfl,rfl⟩:=B;obtain rfl:=f.eq L aa;exact⟨a,w,o,bn,q,f.sm (d a ac),aW.sm M (λc l=>d c (by grind)) r⟩
  case st.unst t=>exact aW.sm (τ:=t) g d b
  case pr.fst m a=>
   obtain⟨J,f2,rfl,e,k⟩:=g;exact aW.sm (τ:=m) e (λc l=>d c (by grind)) b
  case pr.snd m a=>
   obtain⟨J,f2,rfl,e,k⟩:=g;exact aW.sm (τ:=a) k (λc l=>d c (by grind)) b
def nD:bm aZ->bA
 |[]=>bq
 |.idx _::_=>bp
 |.deref::_=>bp
 |_::a=>nD a
def g8:bm aZ->bm aZ->bA
 |p,[]=>nD p
 |.idx _::p,.idx _::a=>g8 p a
 |.deref::p,.deref::a=>g8 p a
 |.unst::p,.unst::a=>g8 p a
 |.fst::p,.fst::a=>g8 p a
 |.snd::p,.snd::a=>g8 p a
 |.fst::_,.snd::_=>bp
 |.snd::_,.fst::_=>bp
 |_,_=>bq
theorem aW.nP {a:Loc}:aW f d w g [] r a y↔d=r/\w=a/\g=y:=by cases d<;>exact akB
def kS:bm aZ->bm aZ->bA
 |.deref::a,.deref::b=>kS a b
 |.unst::a,.unst::b=>kS a b
 |.fst::a,.fst::b=>kS a b
 |.snd::a,.snd::b=>kS a b
 |.fst::_,.snd::_=>bp
 |.snd::_,.fst::_=>bp
 |_,_=>bq
theorem uO (a:bm aZ):kS [] a=bq:=by cases a<;>rfl
theorem Hk:∀{p q:bm aZ},kS p q=bp->g8 p q=bp
 |[],q,a=>by grind [uO]
 |s::p,[],a=>by cases s<;>cases a
 |s::p,b::q,a=>by cases s<;>cases b<;>first|(cases a;done)|exact Hk (p:=p) (q:=q) a|rfl
theorem uP:∀{p q:bm aZ} {τ:ah} {h j:τ.den} {k f:ah} {l:k.den} {i:f.den},kS p q=bp->fa τ h p k l j->eN τ h q f i->eN τ j q f i
 |[],q,_,_,_,_,_,_,_,d,_,_=>by grind [uO]
 |s::p,[],_,_,_,_,_,_,_,d,_,_=>by cases s<;>cases d
 |s::p,m::q,τ,h,j,k,f,l,i,d,c,e=>by
  cases τ<;>cases s<;>simp only[fa] at c<;>cases m<;>first|(cases d;done)|(simp only[eN] at e;done)|skip
  case optr.deref.deref t=>exact uP (p:=p) (q:=q) (τ:=t) d c e
  case st.unst.unst t=>exact uP (p:=p) (q:=q) (τ:=t) d c e
  case pr.fst.fst a b=>
   obtain⟨g,c,rfl⟩:=c;exact uP (p:=p) (q:=q) (τ:=a) d c e
  case pr.snd.snd a b=>
   obtain⟨g,c,rfl⟩:=c;exact uP (p:=p) (q:=q) (τ:=b) d c e
  case pr.fst.snd a b=>
   obtain⟨g,c,rfl⟩:=c;exact e
  case pr.snd.fst a b=>
   obtain⟨g,c,rfl⟩:=c;exact e
theorem aS.sub {B:eD->X->Prop} {A:bC}:∀{p:bm aZ} {τ:ah} {z:Loc} {o:ah8} {m:τ.den} {q:aie} {l:ah} {r:l.den} {y:Loc} {n:ah8},aS B A τ o m q->eN τ m p l r->aW A τ z o p l y n->∃d,aS B A l n r d/\∀b∈d,b∈q
 |[],τ,z,o,m,q,l,r,y,n,f,c,a=>by grind [aW.nP,eN.gv]
 |s::p,τ,z,o,m,q,l,r,y,n,f,c,a=>by
  cases τ<;>cases s<;>simp only[eN] at c<;>simp only[aW] at a
  case osl.idx t i=>
   obtain⟨J,D,c⟩:=c;obtain⟨G,Q,ap,V,I,e,u,L,v,a⟩:=a;obtain⟨T,U,rfl,f⟩:=f;rcases f with⟨_,rfl,_⟩|⟨F,P,C,rfl,rfl,an,ad,N,O⟩
   ·grind
   have am:i<m.length:=(hH.1 D).1;obtain⟨d,E⟩:∃d,C[i]?=some d:=⟨C[i],ba aa⟩;obtain⟨H,M,w,x⟩:=O i J d D E;simp only[hN,aio,eS,aiD,b9] at e;obtain⟨⟨rfl,rfl⟩,rfl,rfl⟩:=e;obtain rfl:=v.eq w aa;obtain⟨g,j,k⟩:=aS.sub (p:=p) x c a;exact⟨g,j,λb h=>hW _ (lS.2 ⟨d,i6 E,k b h⟩)⟩
  case optr.deref t=>
   obtain⟨G,Q,I,e,L,v,a⟩:=a;obtain⟨F,P,d,H,rfl,rfl,M,w,N,x⟩:=f;simp only[hN,ajl,eS,aiD,b9] at e;obtain⟨rfl,rfl⟩:=e;obtain rfl:=v.eq w aa;obtain⟨g,j,k⟩:=aS.sub (p:=p) x c a;exact⟨g,j,λb h=>hW _ (k b h)⟩
  case st.unst t=>exact aS.sub (p:=p) (τ:=t) f c a
  case pr.fst R S=>
   obtain⟨K,f2,rfl,e,u⟩:=f;obtain⟨g,j,k⟩:=aS.sub (p:=p) e c a;exact⟨g,j,λb h=>r4 _ (k b h)⟩
  case pr.snd R S=>
   obtain⟨K,f2,rfl,e,u⟩:=f;obtain⟨g,j,k⟩:=aS.sub (p:=p) u c a;exact⟨g,j,λb h=>lm _ (k b h)⟩
theorem z8:∀(am:bm aZ) {τ:ah} {loc:Loc} {u:ah8} {a0:τ.den} {fl:aie} {F:ah} {i2:F.den},aS e f τ u a0 fl->pz f loc u τ.size->fl.Nodup->(∀g d,loc=Y (g,d)->g∉fl/\∀q,¬e q g)->(∀g∈fl,∀q,¬e q g)->eN τ a0 am F i2->∃y S bl U,aW f τ loc u am F y S/\aS e f F S i2 bl/\pz f y S F.size/\fl.Perm (bl++U)/\(∀m h,y=Y (m,h)->(∃d,loc=Y (m,d)/\d<=h/\h+F.size<=d+τ.size)\/m∈U)/\(∀(
   s:bC) (K:eD->X->Prop) (D:ah8) (z:F.den) (V:aie) (d1:τ.den),
   (∀q g,e q g->K q g)->(∀g,(∃q,e q g)\/g∈U\/(∃d,loc=Y (g,d))->rV f s y F.size g)->
   aS K s F D z V->(y=bo->am≠[]->D=S)->(∀g d,y=Y (g,d)->fq s g d D)->fa τ a0 am F z d1->
   ∃n N,aS K s τ n d1 N/\(am=[]->n=D)/\(loc=bo->(y≠bo\/D=S)->n=u)/\(∀g d,loc=Y (g,d)->fq s g d n)/\N.Perm (V++U)/\aW s τ loc n am F y D/\∀(c:bm aZ) (Q:ah) (P:Loc) (M:ah8),g8 am c=bp->aW f τ loc u c Q P M->aW s τ loc n c Q P M)/\
  (∀(c:bm aZ) (a3:ah) (z:a3.den) (ap:Loc) (dl:ah8) (f2:aie),kS am c=bp->a3.kD=bp->eN τ a0 c a3 z->aW f τ loc u c a3 ap dl->aS e f a3 dl z f2->∀b∈f2,b∈U/\∀m h,y=Y (m,h)->b≠m):=by
 intro am
 induction am with
 |nil=>
  intro τ loc u a0 fl F i2 el cv d9 ad c1 H;obtain⟨rfl,rfl⟩:=eN.gv.1 H;refine⟨loc,u,fl,[],(by cases τ<;>exact⟨bn,bn,bn⟩),el,cv,ac,λm h a=>.inl ⟨h,a,aa,aa⟩,?_,λc _ _ _ _ _ a=>by grind [uO]⟩;intro s K D z V d1 _ _ A _ O B;obtain⟨_,rfl⟩:=fa.gv.1 B;exact⟨D,V,A,λ_=>rfl,λcs a=>a.resolve_left (λc=>c cs),O,ac,(by cases τ<;>exact⟨bn,bn,bn⟩),λc _ _ _ o=>by grind [g8,nD]⟩
 |cons pm am hc=>
  intro τ loc u a0 fl F i2 el cv d9 ad c1 H;cases τ<;>cases pm<;>simp only[eN] at H
  case osl.idx t i=>
   obtain⟨a4,fs,H⟩:=H;obtain⟨ps,ex,rfl,el⟩:=el;rcases el with⟨_,rfl,_⟩|⟨g,d,f7,rfl,rfl,mt,op,io,lf⟩
   ·simp at fs
   have lb:i<a0.length:=(hH.1 fs).1;obtain⟨gf,mc⟩:∃gf,f7[i]?=some gf:=⟨f7[i],ba aa⟩;obtain⟨f9,jp,f5,kd⟩:=lf i a4 gf fs mc;obtain⟨d0,i1,ft,pl⟩:=adk mc;have ro:∀w,w<a0.length->d+w*t.size+t.size<=d+ex*t.size:=λw o=>(by have:(w+1)*t.size<=ex*t.size:=jj _ aa;grind);have f6:pz f (Y (g,d+i*t.size)) f9 t.size:=(by rintro R r a;simp only[eS,ie] at a;obtain⟨rfl,rfl⟩:=a;exact⟨f5,λx l O=>io x aa (by grind)⟩);have le:=d9;rw[ft] at le;simp only[yw,lQ,kk,jO,h9,not_or] at le;obtain⟨⟨ol,f3,on⟩,lc,⟨fT,f8,or⟩,os⟩:=le;obtain⟨y,S,bl,U,d3,d4,d5,G,T,d6,fn⟩:=hc (loc:=Y (g,d+i*t.size)) kd f6 fT (by rintro R r a;simp only[eS,ie] at a;obtain⟨rfl,rfl⟩:=a;exact⟨f3,c1 g ac⟩) (λb k=>c1 b (by rw[ft];simp[k])) H;refine⟨y,S,bl,g::(d0.flatten++(U++i1.flatten)),⟨g,d,_,ex,f9,bn,lb,jp,f5,d3⟩,d4,d5,?_,?_,?_,λc _ _ _ _ _ a=>by cases c with|nil=>cases a|cons I c=>cases I<;>cases a⟩
   ·rw[ft];simp only[yw,lQ];rw[tO] at G|-;intro b;have:=G b;simp only[tM,akD] at this|-;omega
   ·intro m h a;right;rcases T m h a with⟨r,l,_⟩|l
    ·simp only[eS,ie] at l;rw[l.1];simp
    simp[l]
   intro s K D z V d1 bx v A ek d7 B;simp only[fa] at B;obtain⟨n7,gc,l2,B,rfl⟩:=B;obtain rfl:n7=a4:=(by rw[fs] at l2;exact(gC l2).symm);obtain⟨n,N,C,_,_,L,an,em,co⟩:=d6 s K D z V gc bx (by
     rintro b (a|a|⟨r,a⟩)
     ·exact v b (.inl a)
     ·exact v b (.inr (.inl (by simp[a])))
     simp only[eS,ie] at a;exact v b (.inr (.inl (by rw[<-a.1];simp)))) A
    (by
     intro cs sz;exact ek cs ac) d7 B
   have ce:∀m h,y=Y (m,h)->(m=g/\d+i*t.size<=h/\h+F.size<=d+i*t.size+t.size)\/m∈gf:=by
    intro m h a;rcases T m h a with⟨r,l,O,ic⟩|l
    ·simp only[eS,ie] at l;omega
    exact .inr (G.mem_iff.2 (by simp[l]))
   have fp:=v g (.inr (.inl ac));have gl:∀q b,e q b->K q b/\c8 f s b:=λq b k=>⟨bx q b k,(v b (.inl ⟨q,k⟩)).sm (λr a=>by
    rcases ce b r a with⟨rfl,_⟩|l
    ·exact c1 b ac q k
    exact c1 b (by rw[ft];simp[l]) q k)⟩
   have mz:∀(w:X) (ib:t.den) (bs:aie),w≠i->a0[w]?=Y ib->f7[w]?=Y bs->∀d2:ah8,d2.length=t.size->fq f g (d+w*t.size) d2->fq s g (d+w*t.size) d2/\∀b∈bs,c8 f s b:=by
    intro w ib bs gs o ds d2 i0 hr;have rs:w<a0.length:=(hH.1 o).1;have kg:∀b∈bs,b∈d0.flatten\/b∈i1.flatten:=by
     intro b k;rw[ft] at ds;rcases cQ w d0.length with a|a
     ·rw[qC a] at ds;exact .inl (lS.2 ⟨bs,i6 ds,k⟩)
     rw[pu a] at ds;obtain⟨c,E⟩:∃c,w-d0.length=c+1:=⟨w-d0.length-1,aa⟩;rw[E] at ds;simp only[v9] at ds;exact .inr (lS.2 ⟨bs,i6 ds,k⟩)
    refine⟨?_,?_⟩
    ·intro x hw fz;have is:x<d2.length:=(hH.1 fz).1;rw[fp.1]
     ·exact hr x hw fz
     intro h a;rcases ce g h a with⟨_,l,O⟩|l
     ·rcases Nat.lt_or_gt_of_ne gs with rt|rl
      ·left;have:(w+1)*t.size<=i*t.size:=jj _ aa;rw[mN,ng] at this;omega
      right;have:(i+1)*t.size<=w*t.size:=jj _ aa;rw[mN,ng] at this;omega
     exact absurd l f3
    intro b k;refine(v b (.inr (.inl ?_))).sm ?_
    ·rcases kg b k with a|a<;>simp[a]
    intro h a;rcases ce b h a with⟨rfl,_⟩|l
    ·rcases kg b k with a|a
     ·exact ol a
     exact on a
    rcases kg b k with a|a
    ·exact os b a b (.inl l) rfl
    exact or b l b a bn
   refine⟨[.slice (Y ⟨g,d,bo⟩) a0.length ex],g::(d0++N::i1).flatten,⟨Y ⟨g,d,bo⟩,ex,ac,.inr ⟨g,d,d0++N::i1,bn,bn,?_,by simpa using op,fp.MZ io,?_⟩⟩,ac,λ_ _=>rfl,?_,?_,⟨g,d,_,ex,n,bn,lb,by rw[C.len],L g _ rfl,em⟩,?_⟩
   ·rw[ft] at mt;simpa using mt
   ·intro w ib bs o H;by_cases gs:w=i
    ·subst gs;rw[List.getElem?_set_self lb] at o;obtain rfl:=gC o;rw[pu aa,pl,oJ] at H;simp only[qD,eS] at H;subst H;exact⟨n,by rw[C.len],L g _ rfl,C⟩
    rw[List.getElem?_set_ne (λa=>gs a.symm)] at o;have ds:f7[w]?=Y bs:=by
     rw[ft];rcases cQ w d0.length with a|a
     ·rw[qC a] at H|-;exact H
     rw[pu a] at H|-;obtain⟨c,E⟩:∃c,w-d0.length=c+1:=⟨w-d0.length-1,aa⟩;rw[E] at H|-;simpa using H
    obtain⟨d2,i0,hr,ll⟩:=lf w ib bs o ds;obtain⟨lo,lt⟩:=mz w ib bs gs o ds d2 i0 hr;exact⟨d2,i0,lo,ll.mono gl lt⟩
   ·intro R r a;have go:=(ad R r a).1;refine((cv R r a).1).sm ((v R (.inr (.inr ⟨r,a⟩))).sm ?_);intro h f1;rcases ce R h f1 with⟨rfl,_⟩|l
    ·exact go ac
    exact go (by rw[ft];simp[l])
   ·rw[tO] at an|-;intro b;have:=an b;simp only[yw,lQ,tM,akD] at this|-;omega
   intro c Q P M o E;cases c with
   |nil=>exact E
   |cons I c=>
    cases I<;>simp only[g8] at o<;>first|(cases o;done)|skip
    rename_i x;obtain⟨R,r,tf,ra,i3,l,O,ic,gi,ii⟩:=E;simp only[hN,aio,eS,aiD,b9] at l;obtain⟨⟨rfl,rfl⟩,rfl,rfl⟩:=l;by_cases mp:x=i
    ·subst mp;obtain rfl:=gi.eq f5 aa;exact⟨g,d,_,ex,n,bn,O,C.len,L g _ rfl,co c Q P M o ii⟩
    have nn:a0[x]?=Y a0[x]:=ba O;have mo:f7[x]?=Y (f7[x]'(by omega)):=ba _
    obtain⟨d2,i0,hr,ll⟩:=lf x _ _ nn mo;obtain rfl:=gi.eq hr aa;obtain⟨lo,lt⟩:=mz x _ _ mp nn mo i3 ic gi;exact⟨g,d,_,ex,i3,bn,O,ic,lo,aW.sm ll lt ii⟩
  case optr.deref t=>
   obtain⟨g,d,gf,f9,rfl,rfl,jp,f5,io,kd⟩:=el;simp only[kk] at d9;obtain⟨rg,oN⟩:=d9;have f6:pz f (Y (g,d)) f9 t.size:=(by rintro R r a;grind);obtain⟨y,S,bl,U,d3,d4,d5,G,T,d6,fn⟩:=hc (loc:=Y (g,d)) kd f6 oN (by grind) (λb k=>c1 b (by grind)) H;refine⟨y,S,bl,g::U,⟨g,d,f9,bn,jp,f5,d3⟩,d4,d5,?_,?_,?_,?_⟩
   rotate_left 3
   ·intro c a3 z ap dl f2 a fT d8 ci A b k;cases c with
    |nil=>cases a
    |cons I c=>
     cases I<;>first|(cases a;done)|skip
     simp only[aW] at ci;obtain⟨R,r,rb,aq,rd,of,ci⟩:=ci;simp only[hN,ajl,eS,aiD,b9] at aq;obtain⟨rfl,rfl⟩:=aq;obtain rfl:=of.eq f5 aa;obtain⟨aw,J⟩:=fn c a3 z ap dl f2 a fT d8 ci A b k;exact⟨by simp[aw],J⟩
   ·rw[tO] at G|-;intro b;have:=G b;simp only[tM,akD] at this|-;omega
   ·intro m h a;right;rcases T m h a with⟨r,l,_⟩|l
    ·simp only[eS,ie] at l;rw[l.1];simp
    simp[l]
   intro s K D z V d1 bx v A ek d7 B;simp only[fa] at B;obtain⟨n,N,C,_,_,L,an,em,co⟩:=d6 s K D z V d1 bx (by
     rintro b (a|a|⟨r,a⟩)
     ·exact v b (.inl a)
     ·exact v b (.inr (.inl (by simp[a])))
     simp only[eS,ie] at a;exact v b (.inr (.inl (by rw[<-a.1];simp)))) A
    (λcs _=>ek cs ac) d7 B
   have fp:=v g (.inr (.inl ac));refine⟨[.pointer (Y ⟨g,d,bo⟩)],g::N,⟨g,d,N,n,bn,bn,C.len,L g d bn,fp.MZ io,C⟩,ac,λ_ _=>rfl,?_,?_,⟨g,d,n,bn,C.len,L g d bn,em⟩,?_⟩
   ·intro R r a;have go:=(ad R r a).1;refine((cv R r a).1).sm ((v R (.inr (.inr ⟨r,a⟩))).sm ?_);intro h f1;rcases T R h f1 with⟨nx,l,_⟩|l
    ·simp only[eS,ie] at l;exact go (by rw[l.1];simp)
    exact go (hW _ (G.mem_iff.2 (by simp[l])))
   ·rw[tO] at an|-;intro b;have:=an b;simp only[tM,akD] at this|-;omega
   intro c Q P M o E;cases c with
   |nil=>exact E
   |cons I c=>
    cases I<;>simp only[g8] at o<;>first|(cases o;done)|skip
    obtain⟨R,r,i3,l,ic,gi,ii⟩:=E;simp only[hN,ajl,eS,aiD,b9] at l;obtain⟨rfl,rfl⟩:=l;obtain rfl:=gi.eq f5 aa;exact⟨g,d,n,bn,C.len,L g d bn,co c Q P M o ii⟩
  case st.unst t=>
   obtain⟨y,S,bl,U,d3,d4,d5,G,T,d6,fn⟩:=hc (loc:=loc) (τ:=t) el cv d9 ad c1 H;refine⟨y,S,bl,U,d3,d4,d5,G,T,?_,?_⟩
   rotate_left 1
   ·intro c a3 z ap dl f2 a fT d8 ci A b k;cases c with
    |nil=>cases a
    |cons I c=>
     cases I<;>first|(cases a;done)|skip
     exact fn c a3 z ap dl f2 a fT d8 ci A b k
   intro s K D z V d1 bx v A ek d7 B;obtain⟨n,N,C,s0,hi,L,an,em,co⟩:=d6 s K D z V d1 bx v A (λcs _=>ek cs ac) d7 B;refine⟨n,N,C,ac,hi,L,an,em,?_⟩;intro c Q P M o E;cases c with
   |nil=>
    obtain⟨rfl,rfl,rfl⟩:=aW.nP.1 E;obtain⟨_,_,a4⟩:=aW.nP.1 (co [] t loc u (by simpa[g8,nD] using o) (aW.nP.2 ⟨bn,bn,bn⟩));exact aW.nP.2 ⟨bn,bn,a4⟩
   |cons I c=>
    cases I<;>simp only[g8] at o<;>first|(cases o;done)|skip
    exact co c Q P M o E
  case pr.fst j c2=>
   obtain⟨f0,f2,rfl,l,O⟩:=el;have lk:=l.len;have ap:=O.len;simp only[fQ,na] at lk ap;have f6:pz f loc (u.take j.size) j.size:=λg d a=>⟨(cv g d a).1.take,λx aw J=>(cv g d a).2 x aw (by show x<d+(j.size+c2.size);omega)⟩;simp only[jO] at d9;obtain⟨lc,fT,f8⟩:=d9;obtain⟨y,S,bl,U,d3,d4,d5,G,T,d6,fn⟩:=hc (loc:=loc) l f6 lc (λg d a=>⟨λc=>(ad g d a).1 (by simp[c]),(ad g d a).2⟩) (λb k=>c1 b (by grind)) H;refine⟨y,S,bl,U++f2,d3,d4,d5,?_,?_,?_,?_⟩
   rotate_left 3
   ·intro c a3 z ap dl i8 a gt d8 ci A b k;cases c with
    |nil=>cases a
    |cons I c=>
     cases I<;>first|(cases a;done)|skip
     ·obtain⟨aw,J⟩:=fn c a3 z ap dl i8 a gt d8 ci A b k;exact⟨by simp[aw],J⟩
     obtain⟨bs,C,L⟩:=aS.sub (p:=c) O d8 ci;have f4:b∈f2:=L b (by rw[<-aS.uniq gt A C];exact k);refine⟨by simp[f4],λm h fs a4=>?_⟩;subst a4;rcases T b h fs with⟨r,aq,_⟩|aq
     ·exact(ad b r aq).1 (by simp[f4])
     exact f8 b (G.mem_iff.2 (by simp[aq])) b f4 bn
   ·rw[tO] at G|-;intro b;have:=G b;simp only[tM] at this|-;omega
   ·intro m h a;rcases T m h a with⟨r,aw,J,hs⟩|aw
    ·exact .inl ⟨r,aw,J,by show h+F.size<=r+(j.size+c2.size);omega⟩
    exact .inr (by simp[aw])
   intro s K D z V d1 bx v A ek d7 B;simp only[fa] at B;obtain⟨gc,B,rfl⟩:=B;obtain⟨n,N,C,_,hi,L,an,em,co⟩:=d6 s K D z V gc bx (by
     rintro b (a|a|a)
     ·exact v b (.inl a)
     ·exact v b (.inr (.inl (by simp[a])))
     exact v b (.inr (.inr a))) A (λcs _=>ek cs ac) d7 B
   have ce:∀m h,y=Y (m,h)->(∃d,loc=Y (m,d)/\d<=h/\h+F.size<=d+j.size)\/m∈f0:=λm h a=>(T m h a).imp id (λc=>G.mem_iff.2 (by simp[c]));have gl:∀q b,e q b->K q b/\c8 f s b:=λq b k=>⟨bx q b k,(v b (.inl ⟨q,k⟩)).sm (λr a=>by
    rcases ce b r a with⟨d,c,_⟩|c
    ·exact(ad b d c).2 q k
    exact c1 b (by simp[c]) q k)⟩
   have ne:∀b∈f2,c8 f s b:=λb k=>(v b (.inr (.inl (by simp[k])))).sm (λh a=>by
    rcases ce b h a with⟨d,c,_⟩|c
    ·exact(ad b d c).1 (by simp[k])
    exact f8 b c b k bn)
   have no:=C.len;refine⟨n++u.drop j.size,N++f2,⟨N,f2,bn,?_,?_⟩,ac,?_,?_,?_,(by
    show aW s j loc ((n++u.drop j.size).take j.size) am F y D;rw[tQ aa,fB aa];exact em),?_⟩
   ·rw[tQ aa,fB aa];exact C
   ·rw[r1 aa,qz aa,ir];exact O.mono gl ne
   ·intro aw J;rw[hi aw J,kl]
   ·intro g d a;refine(L g d a).append ?_;rw[no];intro x hw fz;have fp:=v g (.inr (.inr ⟨d,a⟩));have is:x<(u.drop j.size).length:=(hH.1 fz).1;simp only[na] at is;rw[fp.1]
    ·exact((cv g d a).1.drop) x hw fz
    intro h f1;rcases ce g h f1 with⟨nx,aw,J,hs⟩|c
    ·rw[a] at aw;simp only[eS,ie,ajF] at aw;omega
    exact absurd (by simp[c]) (ad g d a).1
   ·rw[tO] at an|-;intro b;have:=an b;simp only[tM] at this|-;omega
   intro c Q P M o E;have aq:(n++u.drop j.size).take j.size=n:=(by rw[tQ aa,fB aa]);have ge:(n++u.drop j.size).drop j.size=u.drop j.size:=(by rw[r1 aa,qz aa,ir]);cases c with
   |nil=>
    obtain⟨rfl,rfl,rfl⟩:=aW.nP.1 E;obtain⟨_,_,a4⟩:=aW.nP.1 (co [] j loc (u.take j.size) (by simpa[g8,nD] using o) (aW.nP.2 ⟨bn,bn,bn⟩));exact aW.nP.2 ⟨bn,bn,by rw[a4,kl]⟩
   |cons I c=>
    cases I<;>simp only[g8] at o<;>first|(cases o;done)|skip
    ·show aW s j loc ((n++u.drop j.size).take j.size) c Q P M;rw[aq];exact co c Q P M o E
    show aW s c2 (loc.map λc=>(c.1,c.2+j.size)) ((n++u.drop j.size).drop j.size) c Q P M;rw[ge];exact aW.sm O ne E
  case pr.snd j c2=>
   obtain⟨f0,f2,rfl,l,O⟩:=el;have lk:=l.len;have ap:=O.len;simp only[fQ,na] at lk ap;have f6:pz f (loc.map λc=>(c.1,c.2+j.size)) (u.drop j.size) c2.size:=by
    intro g d a;cases loc with
    |none=>grind
    |some c=>
     obtain⟨pv,av⟩:=c;simp only[ja,eS,ie] at a;obtain⟨rfl,rfl⟩:=a;exact⟨(cv _ _ rfl).1.drop,λx aw J=>(cv _ _ rfl).2 x aa (by show x<av+(j.size+c2.size);omega)⟩
   simp only[jO] at d9;obtain⟨lc,fT,f8⟩:=d9;have f3:∀g d,(loc.map λc=>(c.1,c.2+j.size))=Y (g,d)->∃av,loc=Y (g,av)/\d=av+j.size:=by
    intro g d a;cases loc with
    |none=>grind
    |some c=>
     grind
   obtain⟨y,S,bl,U,d3,d4,d5,G,T,d6,fn⟩:=hc (loc:=loc.map λc=>(c.1,c.2+j.size)) O f6 fT (λg d a=>by grind) (λb k=>c1 b (by grind)) H;refine⟨y,S,bl,U++f0,d3,d4,d5,?_,?_,?_,?_⟩
   rotate_left 3
   ·intro c a3 z ap dl i8 a gt d8 ci A b k;cases c with
    |nil=>cases a
    |cons I c=>
     cases I<;>first|(cases a;done)|skip
     ·obtain⟨bs,C,L⟩:=aS.sub (p:=c) l d8 ci;have f4:b∈f0:=L b (by rw[<-aS.uniq gt A C];exact k);refine⟨by simp[f4],λm h fs a4=>?_⟩;subst a4;rcases T b h fs with⟨r,aq,_⟩|aq
      ·obtain⟨av,ge,_⟩:=f3 _ _ aq;exact(ad b av ge).1 (by simp[f4])
      exact f8 b f4 b (G.mem_iff.2 (by simp[aq])) rfl
     obtain⟨aw,J⟩:=fn c a3 z ap dl i8 a gt d8 ci A b k;exact⟨by simp[aw],J⟩
   ·rw[tO] at G|-;intro b;have:=G b;simp only[tM] at this|-;omega
   ·intro m h a;rcases T m h a with⟨r,aw,J,hs⟩|aw
    ·obtain⟨av,hv,rfl⟩:=f3 _ _ aw;exact .inl ⟨av,hv,aa,by show h+F.size<=av+(j.size+c2.size);omega⟩
    exact .inr (by simp[aw])
   intro s K D z V d1 bx v A ek d7 B;simp only[fa] at B;obtain⟨gc,B,rfl⟩:=B;obtain⟨n,N,C,_,hi,L,an,em,co⟩:=d6 s K D z V gc bx (by
     rintro b (a|a|⟨d,a⟩)
     ·exact v b (.inl a)
     ·exact v b (.inr (.inl (by simp[a])))
     obtain⟨av,hv,rfl⟩:=f3 _ _ a;exact v b (.inr (.inr ⟨av,hv⟩))) A (λcs _=>ek cs ac) d7 B
   have ce:∀m h,y=Y (m,h)->(∃d,loc=Y (m,d)/\d+j.size<=h/\h+F.size<=d+j.size+c2.size)\/m∈f2:=λm h a=>by
    rcases T m h a with⟨r,aw,J,hs⟩|c
    ·obtain⟨av,hv,rfl⟩:=f3 _ _ aw;exact .inl ⟨av,hv,J,hs⟩
    exact .inr (G.mem_iff.2 (by simp[c]))
   have gl:∀q b,e q b->K q b/\c8 f s b:=λq b k=>⟨bx q b k,(v b (.inl ⟨q,k⟩)).sm (λr a=>by
    rcases ce b r a with⟨d,c,_⟩|c
    ·exact(ad b d c).2 q k
    exact c1 b (by simp[c]) q k)⟩
   have nd:∀b∈f0,c8 f s b:=λb k=>(v b (.inr (.inl (by simp[k])))).sm (λh a=>by
    rcases ce b h a with⟨d,c,_⟩|c
    ·exact(ad b d c).1 (by simp[k])
    exact f8 b k b c bn)
   have no:=C.len;refine⟨u.take j.size++n,f0++N,⟨f0,N,bn,?_,?_⟩,ac,?_,?_,?_,(by
    show aW s c2 (loc.map λc=>(c.1,c.2+j.size)) ((u.take j.size++n).drop j.size) am F y D;rw[r1 (by simp;omega),qz (by simp;omega),ir];exact em),?_⟩
   ·rw[tQ (by simp;omega),amj,amk];exact l.mono gl nd
   ·rw[r1 (by simp;omega),qz (by simp;omega),ir];exact C
   ·intro aw J;rw[hi (by rw[aw];rfl) J,kl]
   ·intro g d a;have fp:=v g (.inr (.inr ⟨d,a⟩));have ok:fq s g d (u.take j.size):=by
     intro x hw fz;have is:x<(u.take j.size).length:=(hH.1 fz).1;simp only[fQ] at is;rw[fp.1]
     ·exact((cv g d a).1.take) x hw fz
     intro h f1;rcases ce g h f1 with⟨nx,aw,J,hs⟩|c
     ·rw[a] at aw;simp only[eS,ie,ajF] at aw;omega
     exact absurd (by simp[c]) (ad g d a).1
    refine ok.append ?_;have:=L g (d+j.size) (by rw[a];rfl);rwa[fQ,hI aa]
   ·rw[tO] at an|-;intro b;have:=an b;simp only[tM] at this|-;omega
   intro c Q P M o E;have aq:(u.take j.size++n).take j.size=u.take j.size:=(by rw[tQ (by simp;omega),amj,amk]);have ge:(u.take j.size++n).drop j.size=n:=(by rw[r1 (by simp;omega),qz (by simp;omega),ir]);cases c with
   |nil=>
    obtain⟨rfl,rfl,rfl⟩:=aW.nP.1 E;obtain⟨_,_,a4⟩:=aW.nP.1 (co [] c2 (loc.map λc=>(c.1,c.2+j.size)) (u.drop j.size) (by simpa[g8,nD] using o) (aW.nP.2 ⟨bn,bn,bn⟩));exact aW.nP.2 ⟨bn,bn,by rw[a4,kl]⟩
   |cons I c=>
    cases I<;>simp only[g8] at o<;>first|(cases o;done)|skip
    ·show aW s j loc ((u.take j.size++n).take j.size) c Q P M;rw[aq];exact aW.sm l nd E
    show aW s c2 (loc.map λc=>(c.1,c.2+j.size)) ((u.take j.size++n).drop j.size) c Q P M;rw[ge];exact co c Q P M o E
theorem D0 (i:bm aZ) {loc:Loc} {u:d.den} {τ':ah} {y:τ'.den} (D:aS e f d g u k) (E:pz f loc g d.size) (F:k.Nodup) (G:∀a b,loc=Y (a,b)->a∉k/\∀h,¬e h a) (H:∀a∈k,∀h,¬e h a) (I:eN d u i τ' y):∃c l r o,aW f d loc g i τ' c l/\aS e f τ' l y r/\pz f c l τ'.size/\k.Perm (r++o)/\(∀q s,c=Y (q,s)->(∃b,loc=Y (q,b)/\b<=s/\s+τ'.size<=b+d.size)\/q∈o)/\(∀(
   j:bC) (p:eD->X->Prop) (m:ah8) (B:τ'.den) (w:aie) (A:d.den),
   (∀h a,e h a->p h a)->(∀a,(∃h,e h a)\/a∈o\/(∃b,loc=Y (a,b))->rV f j c τ'.size a)->
   aS p j τ' m B w->(c=bo->i≠[]->m=l)->(∀a b,c=Y (a,b)->fq j a b m)->fa d u i τ' B A->
   ∃n x,aS p j d n A x/\(i=[]->n=m)/\(loc=bo->(c≠bo\/m=l)->n=g)/\(∀a b,loc=Y (a,b)->fq j a b n)/\x.Perm (w++o)/\aW j d loc n i τ' c m/\∀(t:bm aZ) (C:ah) (z:Loc) (v:ah8),g8 i t=bp->aW f d loc g t C z v->aW j d loc n t C z v):=by
 obtain⟨c,l,r,o,J,K,L,M,N,O,_⟩:=z8 i D E F G H I;grind
def bb (a c:X->Prop):eD->X->Prop
 |.bg=>a
 |.de=>λb=>a b\/c b
theorem mW {a:X->Prop} {d:eD} (c:bb a j d b):a b\/j b:=by cases d;exact .inl c;exact c
inductive ak where
 |dead
 |val (τ:ah) (x:τ.den)
 |ref (id:X) (p:bm aZ)
 |addr (id:X) (p:bm aZ)
 |view (id:X) (p:bm aZ) (lo hi:X)
 |app (id:X) (p:bm aZ) (τ:ah) (ys:bm τ.den) (own:aie)
 |dh (v:Value)
 |fe (l:bm ak)
 |agg (l:bm ak)
 |eB (f:X) (l:bm ak)
 |ent (id:X) (p:bm aZ) (k:Z)
 |hz (a:ak)
variable{V:ak}
abbrev aG:=(a:ah)×a.den
variable{u:bm (X×aG)}{P:aG}
structure aO where
 g:bm (X×ak)
 h:bm (X×aG)
variable{O:aO}
def ar {a:Type}:bm (X×a)->X->bv a
 |[],_=>bo
 |(k,v)::r,n=>bif bH k n then Y v else ar r n
theorem ey (b:X) (d:N) (c:bm (X×N)) (a:X):ar ((b,d)::c) a=if b=a then Y d else ar c a:=by
 show(bif bH b a then Y d else ar c a)=_;by_cases e:b=a
 ·simp_all
 rw[az e];grind [ai0]
def gt (a:bm (X×ak)) (b:X):ak:=match ar a b with|some c=>c|none=>.dead
structure eY where
 I0:X->Prop
 B:X->Prop
 F0:X->Prop
 w0:bC
 n:X
 pin:aie
 vs:X->Value
variable{U:eY}
def eY.ok (a:eY) (d:X):Prop:=d<a.n/\d∉a.pin
inductive cP (M:eD->X->Prop) (w:bC) (h:bm (X×aG)) (rt:X->ah8) (fp:X->aie):ak->Value->Prop
 |dead (v:Value):cP M w h rt fp .dead v
 |dh (v:Value):cP M w h rt fp (.dh v) v
 |val {τ:ah} {x:τ.den} {cs:ah8} (r:aS M w τ cs x []):cP M w h rt fp (.val τ x) (cW τ cs)
 |ref {id:X} {p:bm aZ} {t:aG} {τ':ah} {loc:Loc} {cs:ah8} (u1:ar h id=Y t) (Ee:aW w t.1 bo (rt id) p τ' loc cs):cP M w h rt fp (.ref id p) (cW τ' cs)
 |addr {id:X} {p:bm aZ} {t:aG} {τ':ah} {b o:X} {cs:ah8} (u1:ar h id=Y t) (Ee:aW w t.1 bo (rt id) p τ' (Y (b,o)) cs):cP M w h rt fp (.addr id p) (.pointer (Y ⟨b,o,bo⟩))
 |view {id:X} {p:bm aZ} {lo hi:X} {t:aG} {τ':ah} {loc:Loc} {b o len cap:X} (u1:ar h id=Y t) (Ee:aW w t.1 bo (rt id) p (.osl τ') loc [.slice (Y ⟨b,o,bo⟩) len cap]) (Eb:lo<=hi) (V2:hi<=len) (ae2:len<=cap):cP M w h rt fp (.view id p lo hi) (.slice (Y ⟨b,if cap=lo then o else o+lo*τ'.size,bo⟩) (hi-lo) (cap-lo))
 |l7 (id:X) (p:bm aZ):cP M w h rt fp (.view id p 0 0) (.slice bo 0 0)
 |app {id:X} {p:bm aZ} {τ:ah} {ys:bm τ.den} {own:aie} {t:aG} {loc:Loc} {ug:ah8} {xs:bm τ.den} {f1 f2:aie} {v:Value} (u1:ar h id=Y t) (ae5:τ.kD=bp) (Ee:aW w t.1 bo (rt id) p (.osl τ) loc ug) (Ni:eN t.1 t.2 p (.osl τ) xs) (Eb:aS M w (.osl τ) ug xs f1) (ae3:∀b∈f1,b∈fp id) (V2:aS M w (.osl τ) [v] (xs++ys) f2) (ae8:∀i∈own,i≠id/\∃u,ar h i=Y u) (ae9:∀b∈f2,b∈f1\/∃i∈own,b∈fp i) (ae6:f2.Nodup):cP M w h rt fp (.app id p τ ys own) v
 |fe {l:bm ak} {vs:ah6} (Ed:l.length=vs.size) (Ec:∀(i:X) (a:ak) (v:Value),l[i]?=Y a->vs[i]?=Y v->cP M w h rt fp a v):cP M w h rt fp (.fe l) (.tuple vs)
 |agg {l:bm ak} {vs:ah8} (Ed:l.length=vs.length) (Ec:∀(i:X) (a:ak) (v:Value),l[i]?=Y a->vs[i]?=Y v->cP M w h rt fp a v):cP M w h rt fp (.agg l) (.agg (vs.map λv=>v.cells.toList).flatten.toArray)
 |ent {id:X} {p:bm aZ} {k:Z} {t:aG} {τ':ah} {loc:Loc} {b c i:X} {e3:bU cm} {e:cm} (u1:ar h id=Y t) (Ee:aW w t.1 bo (rt id) p (.mp τ') loc [.map (Y b)]) (V6:b∈fp id) (Nj:iS w b=Y (e3,c)) (hi:e3[i]?=Y e) (ae4:e.key=.int .i64 k):cP M w h rt fp (.ent id p k) (.int .i64 (e.born:Z))
 |eB {f:X} {l:bm ak} {vs:ah6} (Ed:l.length=vs.size) (Ec:∀(i:X) (a:ak) (v:Value),l[i]?=Y a->vs[i]?=Y v->cP M w h rt fp a v):cP M w h rt fp (.eB f l) (.func (.func f) #[] vs)
 |hz {a:ak} {v:Value} {b:X} (V6:M .bg b) (hc:w.cell? ⟨b,0,bo⟩=Y v) (ae7:v.oneCell'=bp) (H0:cP M w h rt fp a v):cP M w h rt fp (.hz a) (.pointer (Y ⟨b,0,bo⟩))
structure cN (C:eY) (st:aO) (Kf:ah6) (w:bC) (I:X->Prop) (rt:X->ah8) (fp:X->aie):Prop where
 n:Kf.size=C.n
 i0:∀b,C.I0 b->I b
 i1:∀b,I b->C.I0 b\/C.w0.heap.size<=b\/C.F0 b
 ib:∀b,I b\/C.B b->b<w.heap.size
 tree:∀id t,ar st.h id=Y t->aS (bb I C.B) w t.1 (rt id) t.2 (fp id)/\(fp id).Nodup/\∀b∈fp id,¬I b/\¬C.B b/\b<w.heap.size/\(C.w0.heap.size<=b\/C.F0 b)
 dis:∀i j t u,ar st.h i=Y t->ar st.h j=Y u->i≠j->∀b∈fp i,b∉fp j
 tmp:∀k,cP (bb I C.B) w st.h rt fp (gt st.g k) (Kf.getD k bW)
 frame:∀b,b<C.w0.heap.size->¬C.F0 b->w.heap[b]?=C.w0.heap[b]?
 evo:∀b,b<C.w0.heap.size->kL C.w0 w b
 size:C.w0.heap.size<=w.heap.size
 os:w.os=C.w0.os
 tape:w.tape=C.w0.tape
 output:w.output=C.w0.output
 pin:∀k∈C.pin,Kf.getD k bW=C.vs k
def gI (a:eY) (e:aO) (f:ah6) (g:bC):Prop:=∃b d c,cN a e f g b d c
structure hj (w w':bC):Prop where
 os:w'.os=w.os
 tape:w'.tape=w.tape
 output:w'.output=w.output
 size:w.heap.size<=w'.heap.size
 heap:∀b,b<w.heap.size->w'.heap[b]?=w.heap[b]?
def hj.refl (a:bC):hj a a:=⟨bn,bn,bn,bc _,λ_ _=>rfl⟩
def hj.trans {c d e:bC} (a:hj c d) (b:hj d e):hj c e:=
 ⟨b.os.trans a.os,b.tape.trans a.tape,b.output.trans a.output,ez a.size b.size,λg f=>(b.heap g (i9 f a.size)).trans (a.heap g f)⟩
def hj.drew {b c:bC} (a:hj b c):hj b c.drew:=⟨a.os,a.tape,a.output,a.size,a.heap⟩
theorem hj.alloc (a:bC) (b:Obj):hj a (a.alloc b):=⟨bn,bn,bn,ac,λc d=>by
 show(a.heap.push b)[c]?=_;grind⟩
theorem cP.mono {u x:eD->X->Prop} {r t:bC} {v z:bm (X×aG)} {w D:X->ah8} {s y:X->aie} (n:∀B c,u B c->x B c/\c8 r t c) (d:∀id m,ar v id=Y m->aS u r m.1 (w id) m.2 (s id)/\∀c∈s id,c8 r t c) {j:ak} {b:Value} (F:cP u r v w s j b) (o:∀id m,ar v id=Y m->ar z id=Y m/\D id=w id/\y id=s id):cP x t z D y j b:=by
 induction F with
 |dead b=>exact .dead b
 |dh b=>exact .dh b
 |val S=>exact .val (S.mono n ac)
 |ref a g=>
  obtain⟨h,i,_⟩:=o _ _ a;exact .ref h (by rw[i];exact g.sm (d _ _ a).1 (d _ _ a).2)
 |addr a g=>
  obtain⟨h,i,_⟩:=o _ _ a;exact .addr h (by rw[i];exact g.sm (d _ _ a).1 (d _ _ a).2)
 |l7 id C=>exact .l7 id C
 |view a g e f E=>
  obtain⟨h,i,_⟩:=o _ _ a;exact .view h (by rw[i];exact g.sm (d _ _ a).1 (d _ _ a).2) e f E
 |@app id C τ av an m am T ap U f2 b a N g J e H f V ad O=>
  obtain⟨h,i,R⟩:=o _ _ a;obtain⟨Q,A⟩:=d _ _ a;have I:∀c∈f2,c8 r t c:=λc k=>(by grind);refine .app h N (by rw[i];exact g.sm Q A) J (e.mono n (λc k=>A c (H c k))) (by grind) (f.mono n I) ?_ ?_ O
  ·grind
  grind
 |ent a g k M K L=>
  obtain⟨h,i,R⟩:=o _ _ a;exact .ent h (by rw[i];exact g.sm (d _ _ a).1 (d _ _ a).2) (by grind) (by rw[((d _ _ a).2 _ k).2];exact M) K L
 |fe p _ l=>exact .fe p (λq j b e f=>l q j b e f)
 |agg p _ l=>exact .agg p (λq j b e f=>l q j b e f)
 |eB p _ l=>exact .eB p (λq j b e f=>l q j b e f)
 |hz k G P _ l=>exact .hz (n _ _ k).1 (by rw[((n _ _ k).2.1 0).1];exact G) P l
def aT (c:bm (X×ak)):bO->ak
 |.tmp g=>gt c g
 |.const (.int d e)=>.val (.int d) e
 |.const (.bool a)=>.val .bool a
 |.const (.string f)=>.val .str f
 |.const h=>.dh h
 |.func b=>.eB b []
 |.global _=>.dead
def cP.int {c:eD->X->Prop} {g:bC} {e:bm (X×aG)} {f:X->ah8} {d:X->aie} (a:cw) (b:Z):cP c g e f d (.val (.int a) b) (.int a b):=
 .val (τ:=.int a) (cs:=[.int a b]) ⟨bn,bn⟩
def cP.bool {b:eD->X->Prop} {f:bC} {d:bm (X×aG)} {e:X->ah8} {c:X->aie} (a:bA):cP b f d e c (.val .bool a) (.bool a):=
 .val (τ:=.bool) (cs:=[.bool a]) ⟨bn,bn⟩
def cP.str {b:eD->X->Prop} {f:bC} {d:bm (X×aG)} {e:X->ah8} {c:X->aie} (a:ByteArray):cP b f d e c (.val .str a) (.string a):=
 .val (τ:=.str) (cs:=[.string a]) ⟨bn,bn⟩
def cN.aT {e:eY} {c:aO} {a:Act} {l:bC} {f:X->Prop} {j:X->ah8} {i:X->aie} (m:cN e c a.tmps l f j i) (d:bO):cP (bb f e.B) l c.h j i (aT c.g d) (a.eval d):=by
 cases d with
 |tmp o=>exact m.tmp o
 |const p=>
  cases p<;>simp only[jg.aT,Act.eval]
  case int k n=>exact .int k n
  case bool b=>exact .bool b
  case string s=>exact .str s
  all_goals exact .dh _
 |func q=>exact .eB (vs:=#[]) ac ac
 |global r=>exact .dead _
theorem kA {d:Type}:∀(c b:bm (X×d)) (a:X),ar (c++b) a=(ar c a).or (ar b a)
 |[],b,a=>by simp[ar]
 |(k,v)::c,b,a=>by rw[nY,ey,ey,kA c b a];grind
theorem iQ (c:X) (b:ak) (d:bm (X×ak)) (a:X):gt ((c,b)::d) a=if c=a then b else gt d a:=by grind [ey,gt]
theorem cN.put (a:cN U O z f j p q) (e:U.ok b) {av:ak} {v:Value} (l:cP (bb j U.B) f O.h p q av v):cN U ⟨(b,av)::O.g,O.h⟩ (z.setIfInBounds b v) f j p q where
 n:=by simpa using a.n
 i0:=a.i0
 i1:=a.i1
 ib:=a.ib
 tree:=a.tree
 dis:=a.dis
 tmp:=λc=>by
  show cP _ _ _ _ _ (gt ((b,av)::O.g) c) _;unfold gt;rw[ey];have k:b<z.size:=(by rw[a.n];exact e.1);by_cases d:b=c
  ·simp_all
  rw[az d];have:(z.setIfInBounds b v).getD c bW=z.getD c undef:=(by simp_all);rw[this];exact a.tmp c
 frame:=a.frame
 evo:=a.evo
 size:=a.size
 os:=a.os
 tape:=a.tape
 output:=a.output
 pin:=λc d=>by have:b≠c:=λi=>e.2 (i▸d);rw[<-a.pin c d];simp_all
structure we (C:eY) (st:aO) (w w':bC) (I':X->Prop) (new:bm (X×aG)) (rtn:X->ah8) (fpn:X->aie):Prop where
 tree:∀id t,ar new id=Y t->ar st.h id=bo/\aS (bb I' C.B) w' t.1 (rtn id) t.2 (fpn id)/\(fpn id).Nodup/\∀b∈fpn id,w.heap.size<=b/\b<w'.heap.size/\¬I' b
 dis:∀i j t u,ar new i=Y t->ar new j=Y u->i≠j->∀b∈fpn i,b∉fpn j
def we.nil:we U O f m j [] p q:=
 ⟨(λ_ _ a=>by cases a),(λ_ _ _ _ a=>by cases a)⟩
theorem we.one {C:eY} {st:aO} {w':bC} {I':X->Prop} {id:X} {t:aG} {cs:ah8} {f:aie} (l:ar st.h id=bo) (n:aS (bb I' C.B) w' t.1 cs t.2 f) (j:f.Nodup) (i:∀a∈f,m.heap.size<=a/\a<w'.heap.size/\¬I' a):we C st m w' I' [(id,t)] (λ_=>cs) (λ_=>f) where
 tree:=λe g b=>by
  rw[ey] at b;split at b
  ·grind
  cases b
 dis:=λe o p g c d k=>by
  rw[ey] at c d;split at c
  ·split at d
   ·omega
   cases d
  cases c
def fh (d:bm (X×aG)) {a:Type} (b c:X->a):X->a:=λid=>match ar d id with|some _=>b id|none=>c id
theorem cN.ext {I':X->Prop} {rtn:X->ah8} {fpn:X->aie} (d:cN U O z f j p q) (e:hj f m) (y:∀a,j a->I' a) (A:∀a,I' a->j a\/(f.heap.size<=a/\a<m.heap.size)) {new:bm (X×aG)} (s:we U O f m I' new rtn fpn):cN U ⟨O.g,new++O.h⟩ z m I' (fh new rtn p) (fh new fpn q):=by
 have I:∀w a,bb j U.B w a->bb I' U.B w a/\c8 f m a:=λw a b=>by
  refine⟨?_,.of_heap (e.heap a (d.ib a (mW b)))⟩;cases w
  ·exact y a b
  exact b.imp (y a) id
 have S:∀id c,ar O.h id=Y c->ar (new++O.h) id=Y c/\fh new rtn p id=p id/\fh new fpn q id=q id:=λid c k=>by
  have:ar new id=bo:=by
   cases P:ar new id with
   |none=>rfl
   |some l=>have:=(s.tree id l P).1;grind
  grind [kA,fh]
 have C:∀id c,ar (new++O.h) id=Y c->(ar new id=Y c/\fh new rtn p id=rtn id/\fh new fpn q id=fpn id)\/(ar O.h id=Y c/\fh new rtn p id=p id/\fh new fpn q id=q id):=λid c k=>(by grind [kA,ar,fh]);have J:∀id c,ar O.h id=Y c->∀a∈q id,c8 f m a:=λid c k a b=>.of_heap (e.heap a ((d.tree id c k).2.2 a b).2.2.1);refine{n:=d.n,i0:=λa b=>y a (d.i0 a b),i1:=?_,ib:=?_,tree:=?_,dis:=?_,tmp:=?_,frame:=?_,evo:=λa b=>(d.evo a b).trans (.of_heap (e.heap a (i9 b d.size))),size:=ez d.size e.size,os:=e.os.trans d.os,tape:=e.tape.trans d.tape,output:=e.output.trans d.output,pin:=d.pin}
 ·intro a b;rcases A a b with b|⟨b,_⟩
  ·exact d.i1 a b
  exact .inr (.inl (ez d.size b))
 ·intro a b;rcases b with b|b
  ·rcases A a b with b|⟨_,b⟩
   ·exact i9 (d.ib a (.inl b)) e.size
   omega
  exact i9 (d.ib a (.inr b)) e.size
 ·intro id c k;rcases C id c k with⟨i,x,o⟩|⟨i,x,o⟩
  ·obtain⟨_,aw,D,E⟩:=s.tree id c i;rw[x,o];refine⟨aw,D,λa b=>?_⟩;obtain⟨F,G,H⟩:=E a b;exact⟨H,λM=>by have:=d.ib a (.inr M);omega,G,.inl (ez d.size F)⟩
  obtain⟨aw,D,E⟩:=d.tree id c i;rw[x,o];refine⟨aw.mono I (J id c i),D,λa b=>?_⟩;obtain⟨F,G,H,aJ⟩:=E a b;exact⟨λr=>(A a r).elim F (λV=>by omega),G,i9 H e.size,aJ⟩
 ·intro t u c l Q R K a b;rcases C t c Q with⟨i,_,o⟩|⟨i,_,o⟩<;>rcases C u l R with⟨v,_,L⟩|⟨v,_,L⟩<;>rw[o] at b<;>rw[L]
  ·exact s.dis t u c l i v K a b
  ·intro r;have:=((s.tree t c i).2.2.2 a b).1;have:=((d.tree u l v).2.2 a r).2.2.1;omega
  ·intro r;have:=((s.tree u l v).2.2.2 a r).1;have:=((d.tree t c i).2.2 a b).2.2.1;omega
  exact d.dis t u c l i v K a b
 ·intro T;exact(d.tmp T).mono I (λid c k=>⟨(d.tree id c k).1,J id c k⟩) S
 intro a b N;rw[e.heap a (i9 b d.size)];exact d.frame a b N
def cN.V0 (a:cN U O z f j p q) (b:hj f m):cN U O z m j p q:=by have:=a.ext (rtn:=p) (fpn:=q) b (λ_ a=>a) (λ_ a=>.inl a) (new:=[]) .nil;exact this
def oS:bm (X×ak)->aO->Prop
 |[],_=>True
 |(k,av)::r,st=>gt st.g k=av/\oS r st
def oT:bm (X×aG)->aO->Prop
 |[],_=>True
 |(k,t)::r,st=>ar st.h k=Y t/\oT r st
def oS.get {b:bm (X×ak)} (c:oS b O):∀a,gt b a=.dead\/gt b a=gt O.g a:=by
 induction b with
 |nil=>exactλa=>.inl bn
 |cons f b e=>
  obtain⟨i,h⟩:=f;intro a;rw[iQ];split
  ·rename_i d;subst d;exact .inr c.1.symm
  exact e c.2 a
def oT.get (c:oT u O):∀a b,ar u a=Y b->ar O.h a=Y b:=by
 induction u with
 |nil=>intro a b c;cases c
 |cons g u f=>
  obtain⟨j,i⟩:=g;intro a b d;rw[ey] at d;split at d
  ·rename_i e;subst e;rw[<-d];exact c.1
  exact f c.2 a b d
mutual
def ak.ids:ak->aie
 |.dead|.val _ _|.dh _=>[]
 |.ref id _|.addr id _|.view id _ _ _|.ent id _ _=>[id]
 |.app id _ _ _ c=>id::c
 |.fe a|.agg a|.eB _ a=>ak.oi a
 |.hz b=>b.ids
def ak.oi:bm ak->aie
 |[]=>[]
 |a::b=>a.ids++ak.oi b
end
theorem ak.Ar {l:bm ak} {i:X} (a:l[i]?=Y V) {id:X} (b:id∈V.ids):id∈ak.oi l:=by
 induction l generalizing i with
 |nil=>grind
 |cons e d c=>
  grind [ak.oi]
theorem cP.s9 {x:eD->X->Prop} {z:bm (X×aG)} {D:X->ah8} {y:X->aie} (s:∀B b,e B b->x B b/\c8 f m b) (F:cP e f u p q V R) (d:∀id∈V.ids,∀w,ar u id=Y w->ar z id=Y w/\D id=p id/\y id=q id/\aS e f w.1 (p id) w.2 (q id)/\∀b∈q id,c8 f m b):cP x m z D y V R:=by
 induction F with
 |dead R=>exact .dead R
 |dh R=>exact .dh R
 |val T=>exact .val (T.mono s ac)
 |ref h g=>
  obtain⟨i,j,_,o,k⟩:=d _ (by simp[ak.ids]) _ h;exact .ref i (by rw[j];exact g.sm o k)
 |addr h g=>
  obtain⟨i,j,_,o,k⟩:=d _ (by simp[ak.ids]) _ h;exact .addr i (by rw[j];exact g.sm o k)
 |l7 id C=>exact .l7 id C
 |view h g a c E=>
  obtain⟨i,j,_,o,k⟩:=d _ (by simp[ak.ids]) _ h;exact .view i (by rw[j];exact g.sm o k) a c E
 |@app id C a4 a3 av w ap U a0 ad f2 R h N g J a H c am an O=>
  obtain⟨i,j,S,Q,A⟩:=d _ (by simp[ak.ids]) _ h;have I:∀b∈f2,c8 f m b:=λb l=>(by grind [ak.ids]);refine .app i N (by rw[j];exact g.sm Q A) J (a.mono s (λb l=>A b (H b l))) (by grind) (c.mono s I) ?_ ?_ O
  ·grind [ak.ids]
  grind [ak.ids]
 |ent h g l M K L=>
  obtain⟨i,j,S,o,k⟩:=d _ (by simp[ak.ids]) _ h;exact .ent i (by rw[j];exact g.sm o k) (by grind) (by rw[(k _ l).2];exact M) K L
 |fe t _ n=>exact .fe t (λv V R a c=>n v V R a c (λid r=>d id (ak.Ar a r)))
 |agg t _ n=>exact .agg t (λv V R a c=>n v V R a c (λid r=>d id (ak.Ar a r)))
 |eB t _ n=>exact .eB t (λv V R a c=>n v V R a c (λid r=>d id (ak.Ar a r)))
 |hz l G P _ n=>exact .hz (s _ _ l).1 (by rw[((s _ _ l).2.1 0).1];exact G) P (n λid r=>d id (by grind [ak.ids]))
def cN.yZ {o:aO} (a:cN U o z f j p q) (v:oS O.g o) (d:oT O.h o) (w:∀c,∀id∈(gt O.g c).ids,(ar O.h id).isSome=bp):cN U O z f j p q where
 n:=a.n
 i0:=a.i0
 i1:=a.i1
 ib:=a.ib
 tree:=λid b e=>a.tree id b (d.get id b e)
 dis:=λs t b i m x=>a.dis s t b i (d.get s b m) (d.get t i x)
 tmp:=λc=>by
  rcases v.get c with l|l
  ·rw[l];exact .dead _
  have:=w c;rw[l] at this|-;refine(a.tmp c).s9 (λy k u=>⟨u,c8.refl f k⟩) (λid m b e=>?_);obtain⟨i,r⟩:=FX.1 (this id m);have:=d.get id i r;rw[e] at this;obtain rfl:=gC this;exact⟨r,bn,bn,(a.tree id b e).1,λk _=>c8.refl f k⟩
 frame:=a.frame
 evo:=a.evo
 size:=a.size
 os:=a.os
 tape:=a.tape
 output:=a.output
 pin:=a.pin
def mn (a:bm (X×ak)) (b:bm (X×aG)):bA:=a.all λc=>c.2.ids.all λid=>(ar b id).isSome
theorem mn.get {a:bm (X×ak)} (f:mn a u=bp) (c:X):∀id∈(gt a c).ids,(ar u id).isSome=bp:=by
 intro id b;unfold gt at b;cases d:ar a c with
 |none=>grind [ak.ids]
 |some e=>
  rw[d] at b;have g:(c,e)∈a:=by
   clear f b
   induction a with
   |nil=>cases d
   |cons i j h=>
    grind [akA,ai1,ey]
  grind [ajm,mn]
section
mutual
def fi (P:b0):ah->bF->Prop
 |.int f,T=>∃a,P.info? T=Y a/\a.size=1/\a.bytes<=24/\a.zero=Y (.int f 0)/\P.underlying T=Y (.int f)
 |.bool,T=>∃a,P.info? T=Y a/\a.size=1/\a.bytes<=24/\a.zero=Y (.bool bq)/\P.underlying T=Y .bool
 |.str,T=>∃a,P.info? T=Y a/\a.size=1/\a.bytes<=24/\a.zero=Y (.string akE)/\P.underlying T=Y .string
 |.a2 _ b,T=>∃a E,P.info? T=Y a/\a.size=1/\a.bytes<=24/\a.zero=Y (.slice bo 0 0)/\P.underlying T=Y (.slice E)/\fi P b E
 |.osl b,T=>∃a E,P.info? T=Y a/\a.size=1/\a.bytes<=24/\a.zero=Y (.slice bo 0 0)/\P.underlying T=Y (.slice E)/\fi P b E
 |.ptr _ b,T=>∃a E,P.info? T=Y a/\a.size=1/\a.bytes<=24/\a.zero=Y (.pointer bo)/\P.underlying T=Y (.pointer E)/\fi P b E
 |.optr b,T=>∃a E,P.info? T=Y a/\a.size=1/\a.bytes<=24/\a.zero=Y (.pointer bo)/\P.underlying T=Y (.pointer E)/\fi P b E
 |.st b,T=>0<b.size/\∃a e d,P.info? T=Y a/\a.size=b.size/\a.bytes<=24*b.size/\a.zero=Y (.agg d)/\P.underlying T=Y (.struct e)/\iB P b e.toList 0 d.toList/\d.size=b.size
 |.mp b,T=>∃a c E,P.info? T=Y a/\a.size=1/\a.bytes<=24/\a.zero=Y (.map bo)/\P.underlying T=Y (.map c E)/\P.underlying c=Y (.int .i64)/\fi P b E
 |.fw _ b,T=>∃a c E,P.info? T=Y a/\a.size=1/\a.bytes<=24/\a.zero=Y (.map bo)/\P.underlying T=Y (.map c E)/\P.underlying c=Y (.int .i64)/\fi P b E
 |.fn _ _,T=>∃a g h i,P.info? T=Y a/\a.size=1/\a.bytes<=24/\a.zero=Y .nilFunc/\P.underlying T=Y (.func g h i)
 |_,_=>b6
def iB (P:b0):ah->bm aiE->X->ah8->Prop
 |.pr a g,c::h,e,b=>c.offset=e/\fi P a c.type/\0<a.size/\(∃d f,P.info? c.type=Y d/\d.zero=Y f/\b.take a.size=f.cells.toList)/\iB P g h (e+a.size) (b.drop a.size)
 |.nil,[],_,b=>b=[]
 |_,_,_,_=>b6
end
def o3:ah->bA
 |.st _=>bp
 |_=>bq
structure Sx (P:b0) (τ:ah) (T:bF) (i:TypeInfo):Prop where
 info:P.info? T=Y i
 size:i.size=τ.size
 bytes:i.bytes<=24*τ.size
 pos:0<τ.size
def fi.info {P:b0}:∀{τ:ah} {T:bF},fi P τ T->∃a g,Sx P τ T a/\P.underlying T=Y g/\(match g with|.struct _|.array _ _=>bp|_=>bq)=o3 τ
 |.int _,_,⟨a,b,c,d,_,e⟩=>⟨a,_,⟨b,c,d,by simp[ah.size]⟩,e,bn⟩
 |.bool,_,⟨a,b,c,d,_,e⟩=>⟨a,_,⟨b,c,d,by simp[ah.size]⟩,e,bn⟩
 |.str,_,⟨a,b,c,d,_,e⟩=>⟨a,_,⟨b,c,d,by simp[ah.size]⟩,e,bn⟩
 |.a2 _ _,_,⟨a,_,b,c,d,_,e,_⟩=>⟨a,_,⟨b,c,d,by simp[ah.size]⟩,e,bn⟩
 |.osl _,_,⟨a,_,b,c,d,_,e,_⟩=>⟨a,_,⟨b,c,d,by simp[ah.size]⟩,e,bn⟩
 |.ptr _ _,_,⟨a,_,b,c,d,_,e,_⟩=>⟨a,_,⟨b,c,d,by simp[ah.size]⟩,e,bn⟩
 |.optr _,_,⟨a,_,b,c,d,_,e,_⟩=>⟨a,_,⟨b,c,d,by simp[ah.size]⟩,e,bn⟩
 |.st i,_,⟨h,a,_,_,b,c,d,_,e,_⟩=>⟨a,_,⟨b,c,d,h⟩,e,bn⟩
 |.pr _ _,_,f=>f.elim
 |.nil,_,f=>f.elim
 |.eK,_,f=>f.elim
 |.mp _,_,⟨a,_,_,b,c,d,_,e,_⟩=>⟨a,_,⟨b,c,d,by simp[ah.size]⟩,e,bn⟩
 |.fw _ _,_,⟨a,_,_,b,c,d,_,e,_⟩=>⟨a,_,⟨b,c,d,by simp[ah.size]⟩,e,bn⟩
 |.fn _ _,_,⟨a,_,_,_,b,c,d,_,e⟩=>⟨a,_,⟨b,c,d,by simp[ah.size]⟩,e,bn⟩
theorem fi.H1 {P:b0}:∀{τ:ah} {T:bF},fi P τ T->∃g,g.cells.size=τ.size/\∀d,P.info? T=Y d->d.zero=Y g
 |.int _,_,⟨d,a,_,_,b,_⟩|.bool,_,⟨d,a,_,_,b,_⟩|.str,_,⟨d,a,_,_,b,_⟩=>⟨_,bn,λf c=>by rw[a] at c;cases c;exact b⟩
 |.a2 _ _,_,⟨d,_,a,_,_,b,_⟩|.osl _,_,⟨d,_,a,_,_,b,_⟩|.ptr _ _,_,⟨d,_,a,_,_,b,_⟩|.optr _,_,⟨d,_,a,_,_,b,_⟩=>⟨_,bn,λf c=>by rw[a] at c;cases c;exact b⟩
 |.st n,_,⟨j,d,_,i,a,k,l,b,m,_,h⟩=>⟨.agg i,h,λf c=>by grind⟩
 |.pr _ _,_,e=>e.elim
 |.nil,_,e=>e.elim
 |.eK,_,e=>e.elim
 |.mp _,_,⟨d,_,_,a,_,_,b,_⟩=>⟨_,bn,λf c=>by rw[a] at c;cases c;exact b⟩
 |.fw _ _,_,⟨d,_,_,a,_,_,b,_⟩=>⟨_,bn,λf c=>by rw[a] at c;cases c;exact b⟩
 |.fn _ _,_,⟨d,_,_,_,a,_,_,b,_⟩=>⟨_,bn,λf c=>by rw[a] at c;cases c;exact b⟩
section
variable {P:b0} {τ:ah} {T:bF}
def fi.sizeOf (c:fi P τ T) (b:bC):(ai2 T).run P b=.ok τ.size b:=by obtain⟨e,d,a,_⟩:=c.info;simp[ai2,aiM,a.info,a.size]
def fi.isAgg (c:fi P τ T) (a:bC):(Go.isAgg T).run P a=.ok (o3 τ) a:=by obtain⟨g,b,f,e,d⟩:=c.info;simp only[Go.isAgg,bY,b8 e,b1];rw[<-d];cases b<;>rfl
def fi.pos (a:fi P τ T):0<τ.size:=by obtain⟨d,c,b,_⟩:=a.info;exact b.pos
def Jo:∀{τ:ah} {T:bF},fi P τ T->o3 τ=bq->τ.size=1
 |.int _,_,_,_|.bool,_,_,_|.str,_,_,_|.a2 _ _,_,_,_|.osl _,_,_,_|.ptr _ _,_,_,_|.optr _,_,_,_|.mp _,_,_,_|.fw _ _,_,_,_|.fn _ _,_,_,_=>rfl
 |.st _,_,_,a=>by cases a
 |.pr _ _,_,a,_=>a.elim
 |.nil,_,a,_=>a.elim
 |.eK,_,a,_=>a.elim
def Fa (a:o3 τ=bq):cW τ g=g.headD undef:=by cases τ<;>first|rfl|cases a
def Fb (a:o3 τ=bp):cW τ g=.agg g.toArray:=by cases τ<;>first|rfl|cases a
theorem ov (d:fi P τ T) (c:g.length=τ.size) (e:∀a∈g,a.oneCell'=bp):(cW τ g).cells=g.toArray:=by
 cases b:o3 τ with
 |true=>rw[Fb b];rfl
 |false=>
  rw[Fa b];rw[Jo d b] at c;obtain⟨a,rfl⟩:=qG.1 c;have:=e a ac;cases a<;>first|rfl|grind [aiC]
theorem JP {w:bC} {b o:X} {cs:ah8} (a:fi P τ T) (e:fq w b o cs) (c:cs.length=τ.size):(loadVar T ⟨b,o,bo⟩).run P w=.ok (cW τ cs) w:=by
 simp only[loadVar,bY,a.isAgg,b1];cases g:o3 τ with
 |true=>
  simp only[cj,bY,a.sizeOf,b1];rw[<-c,run_loadCells_list w ⟨b,o,bo⟩ cs (λh d f=>by rw[aja];exact e h d f)];simp_all [Fb]
 |false=>
  rw[Jo a g] at c;obtain⟨d,rfl⟩:=qG.1 c;have:=e 0 d bn;simp_all [Fa,nf]
end
def l8:(τ:ah)->bv τ.den
 |.int _=>Y (0:Z)
 |.bool=>Y bq
 |.str=>Y akE
 |.a2 _ _=>Y []
 |.osl _=>Y []
 |.ptr _ _=>Y bo
 |.optr _=>bo
 |.st c=>l8 c
 |.pr a b=>match l8 a,l8 b with|some d,some e=>Y (d,e)|_,_=>bo
 |.nil=>Y ()
 |.eK=>bo
 |.mp _=>Y bo
 |.fw _ _=>Y bo
 |.fn _ _=>bo
mutual
theorem vS {P:b0}:∀{τ:ah} {T:bF} {g:τ.den},fi P τ T->l8 τ=Y g->∃b l,P.info? T=Y b/\b.zero=Y l/\l=cW τ l.cells.toList/\∀(e:eD->X->Prop) (f:bC),aS e f τ l.cells.toList g []
 |.int p,_,g,⟨b,c,h,i,d,j⟩,a=>⟨b,_,c,d,bn,λe f=>by cases a;exact⟨bn,bn⟩⟩
 |.bool,_,g,⟨b,c,h,i,d,j⟩,a=>⟨b,_,c,d,bn,λe f=>by cases a;exact⟨bn,bn⟩⟩
 |.str,_,g,⟨b,c,h,i,d,j⟩,a=>⟨b,_,c,d,bn,λe f=>by cases a;exact⟨bn,bn⟩⟩
 |.a2 _ _,_,g,⟨b,_,c,h,i,d,j,_⟩,a=>⟨b,_,c,d,bn,λe f=>by cases a;exact⟨bn,bo,0,bn,bc _,λ_=>rfl,.inl bn⟩⟩
 |.osl _,_,g,⟨b,_,c,h,i,d,j,_⟩,a=>⟨b,_,c,d,bn,λe f=>by cases a;exact⟨bo,0,bn,.inl ⟨bn,bn,bn,bn⟩⟩⟩
 |.ptr _ _,_,g,⟨b,_,c,h,i,d,j,_⟩,a=>⟨b,_,c,d,bn,λe f=>by cases a;exact⟨bn,bn⟩⟩
 |.optr _,_,_,_,a=>by cases a
 |.st n,_,g,⟨_,b,o,q,c,h,i,d,j,m,_⟩,a=>⟨b,_,c,d,bn,λe f=>RK (τ:=n) m a e f⟩
 |.pr _ _,_,_,k,_=>k.elim
 |.nil,_,_,k,_=>k.elim
 |.eK,_,_,k,_=>k.elim
 |.mp _,_,g,⟨b,_,_,c,h,i,d,j,_⟩,a=>⟨b,_,c,d,bn,λe f=>by cases a;exact⟨bn,bn⟩⟩
 |.fw _ _,_,g,⟨b,_,_,c,h,i,d,j,_⟩,a=>⟨b,_,c,d,bn,λe f=>by cases a;exact⟨bn,bn⟩⟩
 |.fn _ _,_,_,_,a=>by cases a
theorem RK {P:b0}:∀{τ:ah} {l:bm aiE} {g:X} {f:ah8} {e:τ.den},iB P τ l g f->l8 τ=Y e->∀(b:eD->X->Prop) (d:bC),aS b d τ f e []
 |.pr j k,r::x,g,f,e,a,c,b,d=>by
  obtain⟨s,m,t,⟨u,B,aw,q,w⟩,n⟩:=a;simp only[l8] at c;split at c
  ·rename_i z A o p;cases c;obtain⟨v,C,h,i,_,y⟩:=vS (τ:=j) m o;rw[aw] at h;obtain rfl:=gC h;rw[q] at i;obtain rfl:=gC i;exact⟨[],[],bn,by grind,RK (τ:=k) n p b d⟩
  grind
 |.nil,[],_,f,e,a,c,b,d=>⟨bn,a⟩
 |.pr _ _,[],_,_,_,a,_,_,_=>a.elim
 |.nil,_::_,_,_,_,a,_,_,_=>a.elim
 |.int _,_,_,_,_,a,_,_,_=>by cases a
 |.bool,_,_,_,_,a,_,_,_=>by cases a
 |.str,_,_,_,_,a,_,_,_=>by cases a
 |.a2 _ _,_,_,_,_,a,_,_,_=>by cases a
 |.osl _,_,_,_,_,a,_,_,_=>by cases a
 |.ptr _ _,_,_,_,_,a,_,_,_=>by cases a
 |.optr _,_,_,_,_,a,_,_,_=>by cases a
 |.st _,_,_,_,_,a,_,_,_=>by cases a
 |.eK,_,_,_,_,a,_,_,_=>by cases a
 |.mp _,_,_,_,_,a,_,_,_=>by cases a
 |.fw _ _,_,_,_,_,a,_,_,_=>by cases a
 |.fn _ _,_,_,_,_,a,_,_,_=>by cases a
end
def a7:ah->ah->bA
 |.int g,.int h=>if g=h then bp else bq
 |.bool,.bool|.str,.str|.nil,.nil=>bp
 |.a2 _ a,.a2 _ b|.a2 _ a,.osl b|.osl a,.a2 _ b|.osl a,.osl b=>a7 a b
 |.ptr _ a,.ptr _ b|.ptr _ a,.optr b|.optr a,.ptr _ b|.optr a,.optr b=>a7 a b
 |.st a,.st b=>a7 a b
 |.mp a,.mp b|.mp a,.fw _ b|.fw _ a,.mp b|.fw _ a,.fw _ b=>a7 a b
 |.fn _ _,.fn _ _=>bp
 |.pr c d,.pr e f=>a7 c e&&a7 d f
 |_,_=>bq
theorem a7.size:∀{τ b:ah},a7 τ b=bp->τ.size=b.size:=by
 intro τ
 induction τ with
 |st h c=>intro b a;cases b<;>simp only[a7] at a<;>first|(simp only[ah.size];exact c a)|cases a
 |pr d e f g=>
  intro b a;cases b<;>simp only[a7] at a<;>try (cases a;done)
  simp only[bk] at a;grind [ah.size]
 |_=>intro b a;cases b<;>simp[a7] at a<;>simp[ah.size]
mutual
theorem fi.lay {P:b0}:∀{τ c:ah} {T:bF},a7 τ c=bp->fi P τ T->fi P c T
 |.int q,c,_,a,b=>by cases c<;>simp[a7] at a;grind
 |.bool,c,_,a,b=>by grind [a7]
 |.str,c,_,a,b=>by grind [a7]
 |.a2 _ k,c,_,a,b=>by obtain⟨h,E,d,i,j,e,f,g⟩:=b;cases c<;>simp only[a7] at a<;>first|exact⟨h,E,d,i,j,e,f,fi.lay a g⟩|cases a
 |.osl k,c,_,a,b=>by obtain⟨h,E,d,i,j,e,f,g⟩:=b;cases c<;>simp only[a7] at a<;>first|exact⟨h,E,d,i,j,e,f,fi.lay a g⟩|cases a
 |.ptr _ k,c,_,a,b=>by obtain⟨h,E,d,i,j,e,f,g⟩:=b;cases c<;>simp only[a7] at a<;>first|exact⟨h,E,d,i,j,e,f,fi.lay a g⟩|cases a
 |.optr k,c,_,a,b=>by obtain⟨h,E,d,i,j,e,f,g⟩:=b;cases c<;>simp only[a7] at a<;>first|exact⟨h,E,d,i,j,e,f,fi.lay a g⟩|cases a
 |.st k,c,_,a,b=>by
  obtain⟨p,h,n,o,d,i,j,e,f,g,l⟩:=b;cases c<;>simp only[a7] at a<;>try (cases a;done)
  have:=a7.size a;exact⟨aa,h,n,o,d,aa,aa,e,f,iB.lay a g,aa⟩
 |.pr _ _,_,_,_,b=>b.elim
 |.nil,_,_,_,b=>b.elim
 |.eK,_,_,_,b=>b.elim
 |.mp k,c,_,a,b=>by obtain⟨h,m,E,d,i,j,e,f,g,l⟩:=b;cases c<;>simp only[a7] at a<;>first|exact⟨h,m,E,d,i,j,e,f,g,fi.lay a l⟩|cases a
 |.fw _ k,c,_,a,b=>by obtain⟨h,m,E,d,i,j,e,f,g,l⟩:=b;cases c<;>simp only[a7] at a<;>first|exact⟨h,m,E,d,i,j,e,f,g,fi.lay a l⟩|cases a
 |.fn _ _,c,_,a,b=>by cases c<;>simp only[a7] at a<;>first|exact b|cases a
theorem iB.lay {P:b0}:∀{τ c:ah} {f:bm aiE} {d:X} {e:ah8},a7 τ c=bp->iB P τ f d e->iB P c f d e
 |.pr k l,c,m::o,d,e,b,a=>by
  obtain⟨g,h,n,i,j⟩:=a;cases c<;>simp only[a7] at b<;>try (cases b;done)
  simp only[bk] at b;have:=a7.size b.1;exact⟨g,fi.lay b.1 h,aa,by rw[<-this];exact i,by rw[<-this];exact iB.lay b.2 j⟩
 |.nil,c,[],_,_,b,a=>by grind [a7]
 |.pr _ _,_,[],_,_,_,a=>a.elim
 |.nil,_,_::_,_,_,_,a=>a.elim
 |.int _,_,_,_,_,_,a=>by cases a
 |.bool,_,_,_,_,_,a=>by cases a
 |.str,_,_,_,_,_,a=>by cases a
 |.a2 _ _,_,_,_,_,_,a=>by cases a
 |.osl _,_,_,_,_,_,a=>by cases a
 |.ptr _ _,_,_,_,_,_,a=>by cases a
 |.optr _,_,_,_,_,_,a=>by cases a
 |.st _,_,_,_,_,_,a=>by cases a
 |.eK,_,_,_,_,_,a=>by cases a
 |.mp _,_,_,_,_,_,a=>by cases a
end
structure tZ where
 b:X
 T:bF
 k:cw
 xs:aif
def KY (P:b0) (a:tZ):Prop:=∃b,P.underlying a.T=Y (.array a.xs.length b)/\fi P (.int a.k) b
def KH (P:b0) (T:bF):Prop:=P.stoodInHeld T=bq/\P.eqGuardType P.depth T=bq/\∃a,P.underlying T=Y (.struct a)/\(a.toList.all λb=>b.name !="_")=bp
structure fA where
 P:b0
 tt:bm (bF×ah)
 ok:∀T τ,ar tt T=Y τ->fi P τ T
 mix:P.follows .mixedOrders=bp
 glob:bm tZ:=[]
 gok:∀g∈glob,KY P g:=by intro g h;cases h
 eqs:ah7:=[]
 eqok:∀T∈eqs,KH P T:=by intro T h;cases h
end
section
def hC:X:=4294967296
def ao {b:Type} (c:bm b) (a:Z):bv b:=if 0<=a then c[a.toNat]? else bo
theorem M8 {b:bm N} {a:Z} {c:N} (d:ao b a=Y c):a=(a.toNat:Z)/\a.toNat<b.length/\b[a.toNat]?=Y c:=by grind [aiV,ao]
inductive h3 where
 |e4 (av:ak) (new:bm (X×aG))
 |part (α:Type) (φ:α->Prop) (f:α->ak×bm (X×aG))
 |bad
def h3.K (e:h3) (Q:ak->bm (X×aG)->Prop):Prop:=
 match e with
 |.e4 c d=>Q c d
 |.part f g b=>∃a:f,g a/\Q (b a).1 (b a).2
 |.bad=>b6
def ah.pure:ah->bA
 |.osl _|.optr _|.eK|.mp _=>bq
 |.st c=>c.pure
 |.pr a b=>a.pure&&b.pure
 |_=>bp
def fm:ah->bm aZ->bv ah
 |τ,[]=>Y τ
 |.osl c,.idx _::b=>fm c b
 |.optr c,.deref::b=>fm c b
 |.mp c,.deref::b=>fm c b
 |.st c,.unst::b=>fm c b
 |.pr a _,.fst::b=>fm a b
 |.pr _ d,.snd::b=>fm d b
 |_,_=>bo
def fF:ah->X->bv (bm aZ×ah)
 |.pr a _,0=>Y ([.fst],a)
 |.pr _ c,d+1=>match fF c d with|some b=>Y (.snd::b.1,b.2)|none=>bo
 |_,_=>bo
def fx:ah->X->X
 |.pr _ _,0=>0
 |.pr a b,c+1=>a.size+fx b c
 |_,_=>0
def rj:(e:ah)->e.den->X->bv aG
 |.pr a _,b,0=>Y ⟨a,b.1⟩
 |.pr _ c,b,d+1=>rj c b.2 d
 |_,_,_=>bo
theorem HJ {h:b0}:∀{τ:ah} {j:bm aiE} {f:X} {g:ah8} {e:X} {s:bm aZ} {τf:ah},iB h τ j f g->fF τ e=Y (s,τf)->∃c,j[e]?=Y c/\c.offset=f+fx τ e/\fi h τf c.type
 |.pr a i,c::m,f,g,0,s,τf,d,b=>by simp only[fF,eS,ie] at b;obtain⟨rfl,rfl⟩:=b;exact⟨c,bn,by rw[d.1];rfl,d.2.1⟩
 |.pr a i,c::m,f,g,e+1,s,τf,d,b=>by
  simp only[fF] at b;split at b
  ·rename_i k l;simp only[eS,ie] at b;obtain⟨rfl,rfl⟩:=b;obtain⟨n,o,p,q⟩:=HJ (τ:=i) d.2.2.2.2 (s:=k.1) (τf:=k.2) l;grind [fx]
  grind
 |.pr _ _,[],_,_,_,_,_,d,_=>d.elim
 |.int _,_,_,_,_,_,_,_,b=>by cases b
 |.bool,_,_,_,_,_,_,_,b=>by cases b
 |.str,_,_,_,_,_,_,_,b=>by cases b
 |.a2 _ _,_,_,_,_,_,_,_,b=>by cases b
 |.osl _,_,_,_,_,_,_,_,b=>by cases b
 |.ptr _ _,_,_,_,_,_,_,_,b=>by cases b
 |.optr _,_,_,_,_,_,_,_,b=>by cases b
 |.st _,_,_,_,_,_,_,_,b=>by cases b
 |.nil,_,_,_,_,_,_,_,b=>by cases b
 |.eK,_,_,_,_,_,_,_,b=>by cases b
theorem HM:∀{τ:ah} {e:τ.den} {d:X} {c:aG},rj τ e d=Y c->∃g,fF τ d=Y (g,c.1)
 |.pr a f,e,0,c,b=>by simp only[rj,eS] at b;subst b;exact⟨_,bn⟩
 |.pr a f,e,d+1,c,b=>by obtain⟨g,h⟩:=HM (τ:=f) b;grind [fF]
 |.int _,_,_,_,b=>by cases b
 |.bool,_,_,_,b=>by cases b
 |.str,_,_,_,b=>by cases b
 |.a2 _ _,_,_,_,b=>by cases b
 |.osl _,_,_,_,b=>by cases b
 |.ptr _ _,_,_,_,b=>by cases b
 |.optr _,_,_,_,b=>by cases b
 |.st _,_,_,_,b=>by cases b
 |.nil,_,_,_,b=>by cases b
 |.eK,_,_,_,b=>by cases b
theorem xl:∀{τ:ah} {c:X} {s:bm aZ} {tf:ah},fF τ c=Y (s,tf)->fx τ c+tf.size<=τ.size
 |.pr a d,0,s,tf,b=>by simp only[fF,eS,ie] at b;obtain⟨_,rfl⟩:=b;simp[fx,ah.size]
 |.pr a d,c+1,s,tf,b=>by
  simp only[fF] at b;split at b
  ·rename_i e f;simp only[eS,ie] at b;obtain⟨_,rfl⟩:=b;have:=xl (τ:=d) (s:=e.1) (tf:=e.2) f;grind [fx,ah.size]
  grind
 |.int _,_,_,_,b=>by cases b
 |.bool,_,_,_,b=>by cases b
 |.str,_,_,_,b=>by cases b
 |.a2 _ _,_,_,_,b=>by cases b
 |.osl _,_,_,_,b=>by cases b
 |.ptr _ _,_,_,_,b=>by cases b
 |.optr _,_,_,_,b=>by cases b
 |.st _,_,_,_,b=>by cases b
 |.nil,_,_,_,b=>by cases b
 |.eK,_,_,_,b=>by cases b
theorem HL {i:eD->X->Prop} {w:bC}:∀{τ:ah} {f:τ.den} {e:X} {c:aG} {d:ah8},aS i w τ d f []->rj τ f e=Y c->aS i w c.1 ((d.drop (fx τ e)).take c.1.size) c.2 []/\fx τ e+c.1.size<=τ.size
 |.pr a j,f,0,c,d,h,b=>by simp only[rj,eS] at b;subst b;obtain⟨g,f2,m,l,k⟩:=h;obtain⟨rfl,rfl⟩:g=[]/\f2=[]:=(by simp_all);grind [fx,ah.size]
 |.pr a j,f,e+1,c,d,h,b=>by obtain⟨g,f2,m,l,k⟩:=h;obtain⟨rfl,rfl⟩:g=[]/\f2=[]:=(by simp_all);obtain⟨n,o⟩:=HL (τ:=j) k b;grind [aj3,fx,ah.size]
 |.int _,_,_,_,_,_,b=>by cases b
 |.bool,_,_,_,_,_,b=>by cases b
 |.str,_,_,_,_,_,b=>by cases b
 |.a2 _ _,_,_,_,_,_,b=>by cases b
 |.osl _,_,_,_,_,_,b=>by cases b
 |.ptr _ _,_,_,_,_,_,b=>by cases b
 |.optr _,_,_,_,_,_,b=>by cases b
 |.st _,_,_,_,_,_,b=>by cases b
 |.nil,_,_,_,_,_,b=>by cases b
 |.eK,_,_,_,_,_,b=>by cases b
theorem aW.gv {w:bC} {a b:Loc}:aW w d a g [] r b y↔d=r/\a=b/\g=y:=by cases d<;>exact akB
theorem aW.append {w:bC}:∀{p c:bm aZ} {τ u v:ah} {n q r:Loc} {m k l:ah8},aW w τ n m p u q k->aW w u q k c v r l->aW w τ n m (p++c) v r l
 |[],c,τ,_,_,_,_,_,_,_,_,a,b=>by grind [aW.gv]
 |s::p,c,τ,_,_,_,_,_,_,_,_,a,b=>by
  cases τ<;>cases s<;>simp only[aW] at a
  case osl.idx t i=>
   obtain⟨d,o,z,x,e,f,g,h,j,y⟩:=a;exact⟨d,o,z,x,e,f,g,h,j,y.append b⟩
  case optr.deref t=>
   obtain⟨d,o,e,f,g,h,j⟩:=a;exact⟨d,o,e,f,g,h,j.append b⟩
  case st.unst t=>exact aW.append (p:=p) (τ:=t) a b
  case pr.fst t1 t2=>exact aW.append (p:=p) (τ:=t1) a b
  case pr.snd t1 t2=>exact aW.append (p:=p) (τ:=t2) a b
theorem aW.here {w:bC} {a:Loc}:aW w d a g [] d a g:=by cases d<;>exact⟨bn,bn,bn⟩
def aW.ty {w:bC}:∀{p:bm aZ} {τ c:ah} {m n:Loc} {e f:ah8},aW w τ m e p c n f->fm τ p=Y c
 |[],τ,_,_,_,_,_,a=>by obtain⟨rfl,_⟩:=aW.gv.1 a;cases τ<;>rfl
 |s::p,τ,_,_,_,_,_,a=>by
  cases τ<;>cases s<;>simp only[aW] at a
  case osl.idx t i=>obtain⟨d,o,r,q,g,h,j,k,b,l⟩:=a;exact l.ty
  case optr.deref t=>obtain⟨d,o,g,h,j,k,b⟩:=a;exact b.ty
  case st.unst t=>exact aW.ty (p:=p) (τ:=t) a
  case pr.fst t1 t2=>exact aW.ty (p:=p) (τ:=t1) a
  case pr.snd t1 t2=>exact aW.ty (p:=p) (τ:=t2) a
theorem aW.at {w:bC}:∀{q:bm aZ} {τ r:ah} {g p:Loc} {e h:ah8},aW w τ g e q r p h->e.length=τ.size->(∀b o,g=Y (b,o)->fq w b o e)->h.length=r.size/\∀b o,p=Y (b,o)->fq w b o h
 |[],τ,_,_,_,_,_,c,n,f=>by grind [aW.gv]
 |s::q,τ,_,g,_,e,_,c,n,f=>by
  cases τ<;>cases s<;>simp only[aW] at c
  case osl.idx t i=>
   obtain⟨b,o,A,z,u,v,k,l,m,x⟩:=c;exact x.at l (λj y d=>by grind)
  case optr.deref t=>
   obtain⟨b,o,u,v,k,l,m⟩:=c;exact m.at k (λj y d=>by grind)
  case st.unst t=>exact aW.at (τ:=t) c n f
  case pr.fst a b=>
   exact aW.at (τ:=a) c (by grind [ah.size]) (λb o d=>(f b o d).take)
  case pr.snd a b=>
   refine aW.at (τ:=b) c (by grind [ah.size]) (λj o d=>?_);cases g with
   |none=>grind
   |some B=>
    simp only[ja,eS,ie] at d;obtain⟨rfl,rfl⟩:=d;exact(f _ _ rfl).drop
theorem aW.DZ {w:bC}:∀{τ:ah} {e:X} {s:bm aZ} {τf:ah} {l:Loc} {cs:ah8},fF τ e=Y (s,τf)->aW w τ l cs s τf (l.map λc=>(c.1,c.2+fx τ e)) ((cs.drop (fx τ e)).take τf.size)
 |.pr a f,0,s,τf,l,cs,d=>by simp only[fF,eS,ie] at d;obtain⟨rfl,rfl⟩:=d;simp_all [lP,aW,fx]
 |.pr a f,e+1,s,τf,l,cs,d=>by
  simp only[fF] at d;split at d
  ·rename_i c g;simp only[eS,ie] at d;obtain⟨rfl,rfl⟩:=d;have:=aW.DZ (w:=w) (τ:=f) (s:=c.1) (τf:=c.2) (l:=l.map λc=>(c.1,c.2+a.size)) (cs:=cs.drop a.size) g;simp only[aW,fx];rw[qy] at this;cases l with
   |none=>grind
   |some h=>grind
  grind
 |.int _,_,_,_,_,_,b=>by cases b
 |.bool,_,_,_,_,_,b=>by cases b
 |.str,_,_,_,_,_,b=>by cases b
 |.a2 _ _,_,_,_,_,_,b=>by cases b
 |.osl _,_,_,_,_,_,b=>by cases b
 |.ptr _ _,_,_,_,_,_,b=>by cases b
 |.optr _,_,_,_,_,_,b=>by cases b
 |.st _,_,_,_,_,_,b=>by cases b
 |.nil,_,_,_,_,_,b=>by cases b
 |.eK,_,_,_,_,_,b=>by cases b
theorem eN.uniq:∀{p:bm aZ} {τ:ah} {e:τ.den} {c:ah} {f g:c.den},eN τ e p c f->eN τ e p c g->f=g
 |[],τ,_,_,_,_,a,b=>by grind [eN.gv]
 |s::p,τ,_,_,_,_,a,b=>by
  cases τ<;>cases s<;>simp only[eN] at a b
  case osl.idx=>
   obtain⟨i,h,a⟩:=a;obtain⟨j,d,b⟩:=b;rw[h] at d;obtain rfl:=gC d;exact a.uniq b
  case optr.deref=>exact eN.uniq (p:=p) a b
  case st.unst=>exact eN.uniq (p:=p) a b
  case pr.fst=>exact eN.uniq (p:=p) a b
  case pr.snd=>exact eN.uniq (p:=p) a b
def Yields (E:fA) (C:eY) (st:aO) (a:Act) (w:bC) (I:X->Prop) (rt:X->ah8) (fp:X->aie) (o:bR) (Q:ak->bm (X×aG)->Prop):Prop:=
 ∃j d e i g f c,(bN a.eval o).run E.P w=.ok (.value j) d/\hj w d/\(∀b,I b->e b)/\(∀b,e b->I b\/(w.heap.size<=b/\b<d.heap.size))/\we C st w d e c i g/\cP (bb e C.B) d (c++st.h) (fh c i rt) (fh c g fp) f j/\Q f c
section
variable {E:fA} {C:eY} {st:aO} {a:Act} {w:bC} {I:X->Prop} {rt:X->ah8} {fp:X->aie} {o:bR} {Q:ak->bm (X×aG)->Prop}
def Yields.pure {v:Value} (d:(bN a.eval o).run E.P w=.ok (.value v) w) (e:cP (bb I C.B) w st.h rt fp V v) (c:Q V []):Yields E C st a w I rt fp o Q:=
 ⟨v,w,I,rt,fp,V,[],d,.refl w,λ_ b=>b,λ_ b=>.inl b,.nil,e,c⟩
def Yields.wp (t:cN C st a.tmps w I rt fp) (k:Yields E C st a w I rt fp o Q) {next:Act->bC->Prop} {j:b5->Act->bC->Prop} {f:X} (u:o.dst=Y f) (v:C.ok f) (x:∀b c e d,Q b c->e.defers=a.defers->gI C ⟨(f,b)::st.g,c++st.h⟩ e.tmps d->next e d):o.wp E.P a w next j:=by
 obtain⟨y,d,i,A,z,b,c,l,m,n,p,q,r,s⟩:=k;unfold ais;rw[l];show next (a.put o.dst y) d
 rw[u];exact x b c _ _ s bn ⟨i,_,_,(t.ext m n p q).put v r⟩
def lU (h:BinOp) (a:cw) (d:Z) (g:cw) (b:Z):h3:=
 let c (i:Prop) (f:Z):h3:=if a=g then .part Z (λc=>i/\f=c) (λc=>(.val (.int a) c,[])) else .bad
 let e (f:bA):h3:=if a=g then .e4 (.val .bool f) [] else .bad
 match h with
 |.add=>c True (a.wrap (d+b))
 |.sub=>c True (a.wrap (d-b))
 |.mul=>c True (a.wrap (d*b))
 |.quo=>c (b≠0) (a.wrap (d.tdiv b))
 |.rem=>c (b≠0) (d.tmod b)
 |.and=>c True (a.wrap (ck a.bits d&&&ck a.bits b).toNat)
 |.or=>c True (a.wrap (ck a.bits d|||ck a.bits b).toNat)
 |.xor=>c True (a.wrap (ck a.bits d^^^ck a.bits b).toNat)
 |.andNot=>c True (a.wrap (ck a.bits d&&&~~~ck a.bits b).toNat)
 |.shl=>.part Z (λc=>0<=b/\a.wrap (d*2^min b.toNat a.bits)=c) (λc=>(.val (.int a) c,[]))
 |.shr=>.part Z (λc=>0<=b/\d.fdiv (2^min b.toNat a.bits)=c) (λc=>(.val (.int a) c,[]))
 |.eql=>e (d==b)
 |.neq=>e (d !=b)
 |.lss=>e (br (d<b))
 |.leq=>e (br (d<=b))
 |.gtr=>e (br (d>b))
 |.geq=>e (br (d>=b))
def Gu (c:BinOp) (a b:ak):h3:=
 match a,b with
 |.val (.int d) a,.val (.int e) b=>lU c d a e b
 |.val .bool a,.val .bool b=>match c with
  |.eql=>.e4 (.val .bool (a==b)) []
  |.neq=>.e4 (.val .bool (!(a==b))) []
  |_=>.bad
 |_,_=>.bad
theorem Ts {e:BinOp} {d g:cw} {n f:Z} (k:o.op=.binOp e x c h T) (l:a.eval c=.int d n) (m:a.eval h=.int g f) (b:(lU e d n g f).K Q):Yields E C st a w I rt fp o Q:=by
 have j:∀w,(ajb e x c h (.int d n) (.int g f)).run E.P w=.ok () w:=λw=>(by simp_all [ajb]);have r:e=.shl->Yields E C st a w I rt fp o Q:=(by rintro rfl;simp only[lU] at b;obtain⟨i,⟨p,rfl⟩,b⟩:=b;exact .pure (v:=.int d _) (by simp[bN,k,l,m,j,ait,Op.shift,(aa:¬f<0)]) (.int d _) b);have s:e=.shr->Yields E C st a w I rt fp o Q:=(by rintro rfl;simp only[lU] at b;obtain⟨i,⟨p,rfl⟩,b⟩:=b;exact .pure (v:=.int d _) (by simp[bN,k,l,m,j,ait,Op.shift,(aa:¬f<0)]) (.int d _) b);by_cases q:d=g
 case neg=>
  cases e<;>simp only[lU,q,if_false] at b
  case shl=>grind
  case shr=>grind
  all_goals exact b.elim
 subst q;cases e<;>simp only[lU,cj] at b
 case shl=>grind
 case shr=>grind
 case quo|rem=>
  obtain⟨i,⟨p,rfl⟩,b⟩:=b;exact .pure (v:=.int d _) (by simp_all [bN,ait,Op.intDiv]) (.int d _) b
 case add|sub|mul=>
  obtain⟨i,⟨_,rfl⟩,b⟩:=b;exact .pure (v:=.int d _) (by simp_all [bN,ait,Op.intArith]) (.int d _) b
 case and|or|xor|andNot=>
  obtain⟨i,⟨_,rfl⟩,b⟩:=b;exact .pure (v:=.int d _) (by simp_all [bY,bN,ait,Op.intBits]) (.int d _) b
 all_goals exact .pure (v:=.bool _) (by simp[bN,k,l,m,j,ait,Op.intCmp]) (.bool _) b
def run_equalIn_bool {a:b0} (w:bC) (d:X) (b c:bA) (e:a.underlying x=Y .bool):(ajn (d+1) x (.bool b) (.bool c)).run a w=.ok (b==c) w:=by simp[ajn,b8 e]
theorem run_eql_bool {a:b0} (w:bC) (b c:bA) (d:a.underlying x=Y .bool):(ait .eql x (.bool b) (.bool c)).run a w=.ok (.bool (b==c)) w:=by simp_all [run_equalIn_bool,aj4,aj5,ait]
theorem run_neq_bool {a:b0} (w:bC) (b c:bA) (d:a.underlying x=Y .bool):(ait .neq x (.bool b) (.bool c)).run a w=.ok (.bool (!(b==c))) w:=by simp_all [run_equalIn_bool,aj4,aj5,ait]
theorem Lx (s:cN C st a.tmps w I rt fp) {m:BinOp} (z:o.op=.binOp m x c h T) (y:∀i j:bA,(m=.eql\/m=.neq)->(aT st.g c=.val .bool i/\aT st.g h=.val .bool j)->E.P.underlying x=Y .bool) (d:(Gu m (aT st.g c) (aT st.g h)).K Q):Yields E C st a w I rt fp o Q:=by
 have e:=s.aT c;have f:=s.aT h;unfold Gu at d;split at d
 ·rename_i G J H L n p;rw[n] at e;rw[p] at f;obtain⟨b,l⟩:∃b,b=a.eval c:=⟨_,bn⟩;obtain⟨A,k⟩:∃b,b=a.eval h:=⟨_,bn⟩;rw[<-l] at e;rw[<-k] at f;cases e with|val q=>cases f with|val r=>
  obtain⟨_,rfl⟩:=q;obtain⟨_,rfl⟩:=r;exact Ts z l.symm k.symm d
 ·rename_i i j n p;have k:=y i j;have u:aT st.g c=.val .bool i/\aT st.g h=.val .bool j:=⟨n,p⟩;rw[n] at e;rw[p] at f;obtain⟨b,l⟩:∃b,b=a.eval c:=⟨_,bn⟩;obtain⟨A,t⟩:∃b,b=a.eval h:=⟨_,bn⟩;rw[<-l] at e;rw[<-t] at f;cases e with|val q=>cases f with|val r=>
  obtain⟨_,rfl⟩:=q;obtain⟨_,rfl⟩:=r;have F:a.eval c=.bool i:=l.symm;have D:a.eval h=.bool j:=t.symm;have B:∀w,(ajb m x c h (.bool i) (.bool j)).run E.P w=.ok () w:=λw=>(by simp_all [ajb]);split at d
  ·have:=k (.inl bn) u;exact .pure (v:=.bool _) (by simp_all [bY,b1,run_eql_bool,bN]) (.bool _) d
  ·have:=k (.inr bn) u;exact .pure (v:=.bool _) (by simp_all [bY,b1,run_neq_bool,bN]) (.bool _) d
  exact d.elim
 exact d.elim
end
end
section
section
variable {E:fA} {C:eY} {st:aO} {a:Act} {w:bC} {I:X->Prop} {rt:X->ah8} {fp:X->aie} {o:bR} {Q:ak->bm (X×aG)->Prop}
theorem cN.notM (c:cN C st z w I rt fp) {id:X} (e:ar st.h id=Y P):∀a∈fp id,∀b,¬bb I C.B b a:=λa d b f=>by have:=(c.tree id P e).2.2 a d;grind [mW]
theorem cN.kW (e:cN C st z w I rt fp) {id:X} (f:ar st.h id=Y P) {p:bm aZ} {τ:ah} {i:τ.den} (l:eN P.1 P.2 p τ i) {c:Loc} (m:aW w P.1 bo (rt id) p d c g):∃_e:d=τ,∃a,aS (bb I C.B) w τ g i a/\pz w c g τ.size/\∀j∈a,j∈fp id:=by obtain⟨o,n,_⟩:=e.tree id P f;obtain⟨u,q,a,v,k,r,s,t,_⟩:=D0 p (loc:=bo) o (λ_ _ b=>by cases b) n (λ_ _ b=>by cases b) (e.notM f) l;obtain⟨rfl,rfl,rfl⟩:=m.lw k;grind
def cN.Qs (e:cN C st z w I rt fp) {id:X} (i:ar st.h id=Y P) {b:Loc} (f:aW w P.1 bo (rt id) n d b g):g.length=d.size/\∀a o,b=Y (a,o)->fq w a o g:=f.at (e.tree id P i).1.len (λ_ _ c=>by cases c)
theorem o7 {u:eD->X->Prop}:∀{p:bm aZ} {τ:ah} {E:Loc} {j:ah8} {m:τ.den} {g:aie} {c:ah} {F:Loc} {n:ah8},aS u w τ j m g->aW w τ E j p (.optr c) F n->∃d o e,n=[.pointer (Y ⟨d,o,bo⟩)]/\e.length=c.size/\fq w d o e
 |[],τ,_,_,_,_,_,_,_,a,b=>by obtain⟨rfl,rfl,rfl⟩:=aW.gv.1 b;obtain⟨d,o,g,e,q,_,t,h,_⟩:=a;grind
 |s::p,τ,_,j,m,g,_,_,_,a,b=>by
  cases τ<;>cases s<;>simp only[aW] at b
  case osl.idx c i=>
   obtain⟨d,o,N,J,e,rfl,r,t,h,l⟩:=b;obtain⟨I,K,f,a⟩:=a;simp only[hN,aio,b9] at f;obtain⟨rfl,rfl,rfl⟩:=f;rcases a with⟨k,_⟩|⟨v,G,B,k,_,aw,O,P,H⟩
   ·cases k
   cases k;obtain⟨z,L,x,y⟩:=H i m[i] (B[i]'(by omega)) ac ac
   obtain rfl:=h.eq x aa;exact o7 (p:=p) y l
  case optr.deref c=>
   obtain⟨d,o,e,rfl,t,h,l⟩:=b;obtain⟨v,G,g,z,f,_,M,C,_,D⟩:=a;simp only[hN,ajl,eS,aiD,b9] at f;obtain⟨rfl,rfl⟩:=f;obtain rfl:=h.eq C aa;exact o7 (p:=p) D l
  case st.unst c=>exact o7 (p:=p) (τ:=c) a b
  case pr.fst t1 t2=>obtain⟨A,f2,_,q,_⟩:=a;exact o7 (p:=p) (τ:=t1) q b
  case pr.snd t1 t2=>obtain⟨A,f2,_,_,r⟩:=a;exact o7 (p:=p) (τ:=t2) r b
def gZ (tt:bm (bF×ah)) (a:bF):bv ah:=match ar tt a with|some (.a2 _ b)=>Y b|_=>bo
def lA (tt:bm (bF×ah)) (a:bF):bv ah:=match ar tt a with|some (.st b)=>Y b|_=>bo
theorem gZ.ok {a:bF} {e:ah} (c:gZ E.tt a=Y e):∃d b,E.P.info? a=Y d/\E.P.underlying a=Y (.slice b)/\fi E.P e b:=by
 unfold gZ at c;split at c
 ·rename_i j k f;cases c;obtain⟨d,b,g,_,_,_,h,i⟩:=E.ok a _ f;grind
 grind
theorem lA.ok {a:bF} {d:ah} (c:lA E.tt a=Y d):∃b e,E.P.underlying a=Y (.struct b)/\iB E.P d b.toList 0 e:=by
 unfold lA at c;split at c
 ·rename_i k f;cases c;obtain⟨_,j,b,e,g,_,_,_,h,i,_⟩:=E.ok a _ f;grind
 grind
def u7 (tt:bm (bF×ah)) (e:bm (X×aG)) (g:bF) (b:ak):h3:=
 match gZ tt g with
 |none=>.bad
 |some _=>match b with
  |.val (.a2 _ _) a=>.e4 (.val (.int .i64) (a.length:Z)) []
  |.dh (.slice bo 0 0)=>.e4 (.val (.int .i64) (0:Z)) []
  |.ref id d=>match ar e id with
   |some ⟨c,b⟩=>match fm c d with
    |some (.osl f)=>.part (bm f.den) (λa=>eN c b d (.osl f) a) (λa=>(.val (.int .i64) (a.length:Z),[]))
    |_=>.bad
   |none=>.bad
  |.view _ _ i h=>.e4 (.val (.int .i64) ((h-i:X):Z)) []
  |.app id d c j _=>match ar e id with
   |some ⟨k,b⟩=>.part (bm c.den) (λa=>eN k b d (.osl c) a) (λa=>(.val (.int .i64) ((a.length+j.length:X):Z),[]))
   |none=>.bad
  |_=>.bad
def xz (f:gZ E.tt x=Y d) (g:o.op=.call {callee:=.builtin .len,args:=#[c],argTypes:=#[x]}) (h:a.eval c=.slice s b i):(bN a.eval o).run E.P w=.ok (.value (.int .i64 b)) w:=by obtain⟨k,j,_,e,_⟩:=gZ.ok f;simp[bN,g,aiW,invoke,ajc,h,alm,b8 e,goInt]
theorem WY (s:cN C st a.tmps w I rt fp) (j:o.op=.call {callee:=.builtin .len,args:=#[c],argTypes:=#[x]}) (b:(u7 E.tt st.h x (aT st.g c)).K Q):Yields E C st a w I rt fp o Q:=by
 have d:=s.aT c;unfold u7 at b;split at b
 ·exact b.elim
 rename_i T i;generalize f:a.eval c=U at d;split at b
 ·rename_i R D u e;rw[e] at d;cases d with|val B=>
  obtain⟨_,p,q,rfl,_⟩:=B;exact .pure (xz i j f) (.int _ _) b
 ·rename_i e;rw[e] at d;cases d;exact .pure (xz i j f) (.int _ _) b
 ·rename_i id t e;rw[e] at d;split at b
  ·rename_i G F l;split at b
   ·rename_i D O;obtain⟨u,m,b⟩:=b;cases d with|ref k n=>
    rw[l] at k;cases k;obtain⟨rfl,H,A,_⟩:=s.kW l m n;obtain⟨p,q,rfl,_⟩:=A;exact .pure (xz i j f) (.int _ _) b
   exact b.elim
  exact b.elim
 ·rename_i id t P M e;rw[e] at d;cases d with
  |l7=>exact .pure (xz i j f) (.int _ _) b
  |view k n=>exact .pure (xz i j f) (.int _ _) b
 ·rename_i id t G V S e;rw[e] at d;split at b
  ·rename_i ad F l;obtain⟨u,m,b⟩:=b;cases d with|app k N n y J L v=>
   rw[l] at k;cases k;obtain⟨p,q,r,_⟩:=v;simp only[hN,b9] at r;have z:=eN.uniq m y;subst z;rw[r] at f;have:=xz (w:=w) i j f;rw[jN] at this;exact .pure this (.int _ _) b
  exact b.elim
 exact b.elim
def aW.Np {j:Loc} {o a c:X} (e:i<a) (f:g.length=d.size) (h:fq w b (o+i*d.size) g):aW w (.osl d) j [.slice (Y ⟨b,o,bo⟩) a c] [.idx i] d (Y (b,o+i*d.size)) g:=⟨b,o,a,c,g,bn,e,f,h,aW.here⟩
def aW.Hi {e:Loc} {o:X} (a:g.length=d.size) (c:fq w b o g):aW w (.optr d) e [.pointer (Y ⟨b,o,bo⟩)] [.deref] d (Y (b,o)) g:=⟨b,o,g,bn,a,c,aW.here⟩
def u2 (
 tt:bm (bF×ah)) (i:bm (X×aG)) (k:bF) (e d:ak):h3:=
 match gZ tt k with
 |none=>.bad
 |some g=>match d with
  |.val (.int _) d=>match e with
   |.val (.a2 m b) n=>bif a7 g b then .part b.den (λh=>ao n d=Y h) (λh=>(.val (.ptr m b) (Y h),[])) else .bad
   |.ref id c=>match ar i id with
    |some ⟨f,e⟩=>match fm f c with
     |some (.osl b)=>bif a7 g b then .part (bm b.den×X) (λa=>eN f e c (.osl b) a.1/\d=(a.2:Z)/\a.2<a.1.length) (λa=>(.addr id (c++[.idx a.2]),[])) else .bad
     |_=>.bad
    |none=>.bad
   |.view id c j l=>match ar i id with
    |some ⟨f,e⟩=>match fm f c with
     |some (.osl b)=>bif a7 g b then .part (bm b.den×X) (λa=>eN f e c (.osl b) a.1/\d=(a.2:Z)/\a.2<l-j) (λa=>(.addr id (c++[.idx (j+a.2)]),[])) else .bad
     |_=>.bad
    |none=>.bad
   |_=>.bad
  |_=>.bad
def H4 (l:gZ E.tt x=Y r) (n:a7 r d=bp) (p:o.op=.indexAddr x h c) {e f g:X} (s:a.eval h=.slice (Y ⟨e,f,bo⟩) i g) (m:a.eval c=.int v b) (u:b<i):(bN a.eval o).run E.P w=.ok (.value (.pointer (Y ⟨e,f+b*d.size,bo⟩))) w:=by obtain⟨y,t,_,j,k⟩:=gZ.ok l;have q:=(k.lay n).sizeOf w;have:(0:Z)<=(b:Z)/\(b:Z)<(i:Z):=⟨aa,aa⟩;simp[bN,p,s,m,Instr.indexAt,ajo,b8 j,this,q,aja];omega
theorem Wf (B:cN C st a.tmps w I rt fp) {z:bO} (M:o.op=.indexAddr T z c) (b:(u2 E.tt st.h T (aT st.g z) (aT st.g c)).K Q):Yields E C st a w I rt fp o Q:=by
 have k:=B.aT z;have L:=B.aT c;unfold u2 at b;split at b
 ·exact b.elim
 rename_i U J;generalize N:a.eval z=d7 at k;generalize O:a.eval c=d8 at L;split at b
 case h_2=>exact b.elim
 rename_i ap P bs;rw[bs] at L;cases L with|val S=>
 obtain⟨_,rfl⟩:=S;split at b
 ·rename_i c2 f y q;cases d:a7 U f with
  |false=>rw[d] at b;exact b.elim
  |true=>
   rw[d] at b;obtain⟨V,c1,b⟩:=b;rw[q] at k;cases k with|val S=>
   obtain⟨_,ad,am,rfl,aw,av,R⟩:=S;obtain⟨aq,a4,bl⟩:=M8 c1;rcases R with rfl|⟨A,u,rfl,ce,v⟩
   ·grind
   obtain⟨F,n,p,D⟩:=v _ _ bl;have cv:a.eval c=.int ap (P.toNat:X):=(by rw[O];show aiu ap P=_;grind);exact .pure (H4 J d M N cv a4) (.val (τ:=.ptr c2 f) (x:=Y V) (cs:=[.pointer (Y ⟨A,u+P.toNat*f.size,bo⟩)]) ⟨bn,A,_,F,bn,ce,n,p,D⟩) b
 ·rename_i id dl q;split at b
  case h_2=>exact b.elim
  rename_i a0 V j;split at b
  case h_2=>exact b.elim
  rename_i f co;cases d:a7 U f with
  |false=>rw[d] at b;exact b.elim
  |true=>
   rw[d] at b;obtain⟨⟨y,e⟩,⟨r,rfl,l⟩,b⟩:=b;simp only at r l b;rw[q] at k;cases k with|ref t s=>
   rw[j] at t;cases t;obtain⟨rfl,bx,i,_⟩:=B.kW j r s;obtain⟨ad,am,rfl,i⟩:=i;rcases i with⟨_,rfl,_⟩|⟨A,u,G,rfl,_,aw,av,R,v⟩
   ·grind
   obtain⟨F,n,p,D⟩:=v e y[e] (G[e]'(by omega)) ac ac
   exact .pure (H4 J d M N O l) (.addr j (s.append (aW.Np l n p))) b
 ·rename_i id dl m d1 q;split at b
  case h_2=>exact b.elim
  rename_i a0 V j;split at b
  case h_2=>exact b.elim
  rename_i f co;cases d:a7 U f with
  |false=>rw[d] at b;exact b.elim
  |true=>
   rw[d] at b;obtain⟨⟨y,e⟩,⟨r,rfl,l⟩,b⟩:=b;simp only at r l b;rw[q] at k;cases k with|l7=>omega|view t s d2 d3 d4=>
   rename_i A u d5 am;rw[j] at t;cases t;obtain⟨a3,bx,i,_⟩:=B.kW j r s;cases a3;obtain⟨ad,d0,an,i⟩:=i;simp only[hN,aio,b9] at an;obtain⟨rfl,rfl,rfl⟩:=an;rcases i with⟨H,_⟩|⟨ds,d6,G,H,_,aw,av,R,v⟩
   ·cases H
   cases H;have ci:m+e<y.length:=aa;obtain⟨F,n,p,D⟩:=v (m+e) y[m+e] (G[m+e]'(by omega)) ac ac
   have:=H4 (w:=w) J d M N O l;rw[az aa,show u+m*f.size+e*f.size=u+(m+e)*f.size by grind] at this;exact .pure this (.addr j (s.append (aW.Np ci n p))) b
 exact b.elim
def aS.pure {h:eD->X->Prop} {w:bC}:∀{τ:ah} {i:ah8} {e:τ.den} {g:aie},τ.pure=bp->aS h w τ i e g->g=[]
 |.int _,_,_,_,_,b=>b.1
 |.bool,_,_,_,_,b=>b.1
 |.str,_,_,_,_,b=>b.1
 |.a2 _ _,_,_,_,_,b=>b.1
 |.ptr _ _,_,_,_,_,b=>b.1
 |.nil,_,_,_,_,b=>b.1
 |.st k,_,_,_,c,b=>aS.pure (τ:=k) c b
 |.pr a f,_,_,_,c,b=>by simp only[ah.pure,bk] at c;obtain⟨n,f2,rfl,j,d⟩:=b;rw[aS.pure (τ:=a) c.1 j,aS.pure (τ:=f) c.2 d];rfl
 |.osl _,_,_,_,c,_=>by cases c
 |.optr _,_,_,_,c,_=>by cases c
 |.fw _ _,_,e,_,_,b=>by
  cases e with
  |none=>exact b.1
  |some o=>obtain⟨f,m,l,_,d,_⟩:=b;exact d
 |.fn _ _,_,_,_,_,b=>b.1
 |.eK,_,_,_,c,_=>by cases c
def vv (d:ah) (e:d.den) (id:X) (c:bm aZ) (a:ah):h3:=
 bif a.pure then .part a.den (λb=>eN d e c a b) (λb=>(.val a b,[])) else .e4 (.ref id c) []
def oD:ah->bA
 |.st _|.pr _ _|.nil|.eK=>bq
 |_=>bp
def o0:ah->bA
 |.nil=>bp
 |.pr a b=>oD a&&o0 b
 |_=>bq
def z7:(d:ah)->d.den->bm ak
 |.pr a c,b=>.val a b.1::z7 c b.2
 |_,_=>[]
def o0.one {τ:ah} (a:oD τ=bp):τ.size=1/\∀cs,cW τ cs=cs.headD undef:=by cases τ<;>first|(cases a;done)|exact⟨bn,λ_=>rfl⟩
def MX {g:eD->X->Prop} {w:bC} {h:bm (X×aG)} {rt:X->ah8} {fp:X->aie}:∀{t:ah} {c:ah8} {e:t.den},o0 t=bp->aS g w t c e []->(z7 t e).length=c.length/\∀(b:X) (a:ak) (f:Value),(z7 t e)[b]?=Y a->c[b]?=Y f->cP g w h rt fp a f
 |.nil,c,e,_,j=>by obtain rfl:=j.2;exact⟨bn,λb a f d _=>by cases d⟩
 |.pr a o,c,e,i,j=>by
  simp only[o0,bk] at i;obtain⟨v,f2,r,d,k⟩:=j;obtain⟨rfl,rfl⟩:=aln.1 r.symm;obtain⟨aq,q⟩:=o0.one i.1;have m:=d.len;rw[aq] at d k m;cases c with
  |nil=>cases m
  |cons f c=>
   obtain⟨aw,s⟩:=MX (t:=o) i.2 k;refine⟨b4 (· +1) aw,λb p u l n=>?_⟩;cases b with
   |zero=>
    cases l;cases n;have:=cP.val (M:=g) (w:=w) (h:=h) (rt:=rt) (fp:=fp) d;rw[q] at this;exact this
   |succ b=>exact s b p u l n
def vo:(t:ah)->t.den->ak
 |.fn b t,a=>bif o0 t then .eB b (z7 t a) else .val (.fn b t) a
 |t,a=>.val t a
def aa8 {w:bC} {rt:X->ah8} {fp:X->aie} {b:d.den} (j:aS e w d g b []):cP e w u rt fp (vo d b) (cW d g):=by
 cases d<;>first|exact .val j|skip
 rename_i c d;cases i:o0 d with
 |false=>
  have:vo (.fn c d) b=.val (.fn c d) b:=(by simp only[vo,i,bP]);rw[this];exact .val j
 |true=>
  have:vo (.fn c d) b=.eB c (z7 d b):=(by simp only[vo,i,bG]);rw[this];obtain⟨_,o,rfl,f⟩:=j;obtain⟨aw,m⟩:=MX (h:=u) (rt:=rt) (fp:=fp) i f;exact .eB (by simpa using aw) (λl a n k f=>m l a n k (by simpa using f))
def u9 (tt:bm (bF×ah)) (f:bm (X×aG)) (g:bF) (c:ak):h3:=
 match ar tt g with
 |none=>.bad
 |some e=>match c with
  |.val (.ptr _ a) (Y i)=>bif a7 e a then .e4 (vo a i) [] else .bad
  |.hz h=>bif oD e then .e4 h [] else .bad
  |.addr id b=>match ar f id with
   |some ⟨d,c⟩=>match fm d b with
    |some a=>bif a7 e a then vv d c id b a else .bad
    |none=>.bad
   |none=>.bad
  |.ref id b=>match ar f id with
   |some ⟨d,c⟩=>match fm d b with
    |some (.optr a)=>bif a7 e a then vv d c id (b++[.deref]) a else .bad
    |_=>.bad
   |none=>.bad
  |_=>.bad
theorem Iu (e:ar E.tt x=Y r) (j:a7 r d=bp) (k:o.op=.load x c) (l:a.eval c=.pointer (Y ⟨b,i,bo⟩)) (f:fq w b i g) (h:g.length=d.size):(bN a.eval o).run E.P w=.ok (.value (cW d g)) w:=by have:=JP ((E.ok x r e).lay j) f h;simp_all [bN,aml,ajG]
theorem JE (l:cN C st a.tmps w I rt fp) {id:X} {k:r.den} (j:ar st.h id=Y ⟨r,k⟩) {p:Loc} (e:aW w r bo (rt id) n d p g) (f:(bN a.eval o).run E.P w=.ok (.value (cW d g)) w) (b:(vv r k id n d).K Q):Yields E C st a w I rt fp o Q:=by
 unfold vv at b;cases c:d.pure with
 |true=>
  rw[c] at b;obtain⟨s,m,b⟩:=b;obtain⟨_,q,i,_⟩:=l.kW j m e;have:=i.pure c;subst this;exact .pure f (.val i) b
 |false=>
  rw[c] at b;exact .pure f (.ref j e) b
theorem W5 (p:cN C st a.tmps w I rt fp) (z:o.op=.load x c) (d:(u9 E.tt st.h x (aT st.g c)).K Q):Yields E C st a w I rt fp o Q:=by
 have f:=p.aT c;unfold u9 at d;split at d
 ·exact d.elim
 rename_i n r;generalize A:a.eval c=u at f;split at d
 ·rename_i a0 m G i;cases e:a7 n m with
  |false=>rw[e] at d;exact d.elim
  |true=>
   rw[e] at d;rw[i] at f;cases f with|val U=>
   obtain⟨_,q,O,H,rfl,aw,F,S,T⟩:=U;exact .pure (Iu r e z A S F) (aa8 T) d
 ·rename_i am i;cases s:oD n with
  |false=>rw[s] at d;exact d.elim
  |true=>
   rw[s] at d;rw[i] at f;cases f with|hz ap L an M=>
   obtain⟨aq,J⟩:=o0.one s;rename_i u q;have:=JP (E.ok x n r) (cs:=[u]) (w:=w) (b:=q) (o:=0) (λD a3 B=>by
    cases D with
    |zero=>cases B;exact L
    |succ D=>cases B) (by rw[aq];rfl)
   have N:(bN a.eval o).run E.P w=.ok (.value u) w:=(by rw[J] at this;simp_all [bN,aml,ajG]);exact .pure N M d
 ·rename_i id R i;split at d
  case h_2=>exact d.elim
  rename_i V G k;split at d
  case h_2=>exact d.elim
  rename_i m t;cases e:a7 n m with
  |false=>rw[e] at d;exact d.elim
  |true=>
   rw[e] at d;rw[i] at f;cases f with|addr l j=>
   rw[k] at l;cases l;have:=j.ty;rw[t] at this;cases this;obtain⟨aw,F⟩:=p.Qs k j;grind [JE,Iu]
 ·rename_i id R i;split at d
  case h_2=>exact d.elim
  rename_i V G k;split at d
  case h_2=>exact d.elim
  rename_i m t;cases e:a7 n m with
  |false=>rw[e] at d;exact d.elim
  |true=>
   rw[e] at d;rw[i] at f;cases f with|ref l j=>
   rename_i a4 av ad;rw[k] at l;cases l;have:=j.ty;rw[t] at this;cases this;obtain⟨q,O,H,rfl,v,y⟩:=o7 (p.tree id _ k).1 j;exact JE p k (j.append (aW.Hi v y)) (Iu r e z A y v) d
 exact d.elim
def uW (tt:bm (bF×ah)) (g:bm (X×aG)) (h:bF) (k:ak) (c:X):h3:=
 match lA tt h with
 |none=>.bad
 |some e=>match k with
  |.val (.ptr i (.st a)) (Y l)=>bif a7 e a then match rj a l c with
   |some ⟨j,m⟩=>.e4 (.val (.ptr i j) (Y m)) []
   |none=>.bad
   else .bad
  |.ref id b=>match ar g id with
   |some ⟨f,_⟩=>match fm f b with
    |some (.optr (.st a))=>bif a7 e a then match fF a c with
     |some (d,_)=>.e4 (.addr id (b++(.deref::.unst::d))) []
     |none=>.bad
     else .bad
    |_=>.bad
   |none=>.bad
  |.addr id b=>match ar g id with
   |some ⟨f,_⟩=>match fm f b with
    |some (.st a)=>bif a7 e a then match fF a c with
     |some (d,_)=>.e4 (.addr id (b++(.unst::d))) []
     |none=>.bad
     else .bad
    |_=>.bad
   |none=>.bad
  |_=>.bad
theorem HI {g:ah} (m:lA E.tt x=Y g) (q:a7 g d=bp) (u:fF d b=Y (n,r)) (s:o.op=.fieldAddr x c b) {f:X} (v:a.eval c=.pointer (Y ⟨i,f,bo⟩)):(bN a.eval o).run E.P w=.ok (.value (.pointer (Y ⟨i,f+fx d b,bo⟩))) w:=by obtain⟨j,A,k,l⟩:=lA.ok m;obtain⟨h,z,t,e⟩:=HJ (iB.lay q l) u;have y:r.size≠0:=(by have:=e.pos;omega);have p:j[b]?=Y h:=(by grind);simp[bN,s,v,Instr.fieldAt,b8 k,p,ajG,fieldPlace,e.sizeOf,y,aja,t]
theorem Vu (G:cN C st a.tmps w I rt fp) (y:o.op=.fieldAddr T c b) (d:(uW E.tt st.h T (aT st.g c) b).K Q):Yields E C st a w I rt fp o Q:=by
 have m:=G.aT c;unfold uW at d;split at d
 ·exact d.elim
 rename_i D v;generalize A:a.eval c=a0 at m;split at d
 ·rename_i U e M r;cases i:a7 D e with
  |false=>rw[i] at d;exact d.elim
  |true=>
   rw[i] at d;simp only[bG] at d;split at d
   case h_2=>exact d.elim
   rename_i n ap H;rw[r] at m;cases m with|val am=>
   obtain⟨_,f,j,u,rfl,aw,av,ad,J⟩:=am;obtain⟨t,k⟩:=HM H;obtain⟨L,an⟩:=HL (τ:=e) J H;have R:=J.len;simp only[ah.size] at R L an;exact .pure (HI v i k y A) (.val (τ:=.ptr U n) (x:=Y ap) (cs:=[.pointer (Y ⟨f,j+fx e b,bo⟩)]) ⟨bn,f,_,_,bn,aw,by grind,ad.drop.take,L⟩) d
 ·rename_i id V r;split at d
  case h_2=>exact d.elim
  rename_i N M q;split at d
  case h_2=>exact d.elim
  rename_i e z;cases i:a7 D e with
  |false=>rw[i] at d;exact d.elim
  |true=>
   rw[i] at d;simp only[bG] at d;split at d
   case h_2=>exact d.elim
   rename_i t n k;rw[r] at m;cases m with|ref s p=>
   rw[q] at s;cases s;have:=p.ty;rw[z] at this;cases this;obtain⟨f,j,u,rfl,O,P⟩:=o7 (G.tree id _ q).1 p;rename_i S;have B:aW w (.optr (.st e)) S [.pointer (Y ⟨f,j,bo⟩)] (.deref::.unst::t) n (Y (f,j+fx e b)) ((u.drop (fx e b)).take n.size):=⟨f,j,u,bn,O,P,aW.DZ (l:=Y (f,j)) k⟩;exact .pure (HI v i k y A) (.addr q (p.append B)) d
 ·rename_i id V r;split at d
  case h_2=>exact d.elim
  rename_i N M q;split at d
  case h_2=>exact d.elim
  rename_i e z;cases i:a7 D e with
  |false=>rw[i] at d;exact d.elim
  |true=>
   rw[i] at d;simp only[bG] at d;split at d
   case h_2=>exact d.elim
   rename_i t n k;rw[r] at m;cases m with|addr s p=>
   rw[q] at s;cases s;have:=p.ty;rw[z] at this;cases this;rename_i f j F;have B:aW w (.st e) (Y (f,j)) F (.unst::t) n (Y (f,j+fx e b)) ((F.drop (fx e b)).take n.size):=aW.DZ (l:=Y (f,j)) k;exact .pure (HI v i k y A) (.addr q (p.append B)) d
 exact d.elim
def xk (
 tt:bm (bF×ah)) (i:bm (X×aG)) (h:bF) (c:ak) (d:X):h3:=
 match lA tt h with
 |none=>.bad
 |some f=>match c with
  |.val (.st a) k=>bif a7 f a then match rj a k d with
   |some ⟨b,l⟩=>.e4 (.val b l) []
   |none=>.bad
   else .bad
  |.ref id e=>match ar i id with
   |some ⟨g,c⟩=>match fm g e with
    |some (.st a)=>bif a7 f a then match fF a d with
     |some (j,b)=>vv g c id (e++(.unst::j)) b
     |none=>.bad
     else .bad
    |_=>.bad
   |none=>.bad
  |_=>.bad
theorem MW {j:ah} (q:lA E.tt x=Y j) (t:a7 j d=bp) (v:fF d b=Y (n,r)) (u:o.op=.field x c b) (y:a.eval c=cW (.st d) g) (B:fx d b+r.size<=g.length):(bN a.eval o).run E.P w=.ok (.value (cW r ((g.drop (fx d b)).take r.size))) w:=by
 obtain⟨k,G,m,p⟩:=lA.ok q;obtain⟨f,C,i,e⟩:=HJ (iB.lay t p) v;have F:=e.pos;have s:k[b]?=Y f:=(by grind);simp only[nh] at i;have z:a.eval c=.agg g.toArray:=y;have A:(part f.type g.toArray f.offset).run E.P w=.ok (cW r ((g.drop (fx d b)).take r.size)) w:=by
  simp only[part,bY,e.isAgg,b1,i];cases h:o3 r with
  |true=>
   rw[Fb h];simp only[cj,bY,e.sizeOf,b1,cx];grind
  |false=>
   have l:=Jo e h;rw[Fa h,l];have D:fx d b<g.length:=aa;have:(g.drop (fx d b)).take 1=[g[fx d b]]:=(by grind [List.drop_eq_getElem_cons]);simp_all
 simp[bN,u,z,Instr.field,b8 m,s,asAgg,A]
theorem Vw (m:cN C st a.tmps w I rt fp) (u:o.op=.field x c b) (d:(xk E.tt st.h x (aT st.g c) b).K Q):Yields E C st a w I rt fp o Q:=by
 have j:=m.aT c;unfold xk at d;split at d
 ·exact d.elim
 rename_i D s;generalize y:a.eval c=P at j;split at d
 ·rename_i f J l;cases e:a7 D f with
  |false=>rw[e] at d;exact d.elim
  |true=>
   rw[e] at d;simp only[bG] at d;split at d
   case h_2=>exact d.elim
   rename_i q R t;rw[l] at j;cases j with|val A=>
   obtain⟨B,i⟩:=HM t;obtain⟨H,O⟩:=HL (τ:=f) A t;have G:=A.len;simp only[ah.size] at G;exact .pure (MW s e i u y aa) (.val H) d
 ·rename_i id M l;split at d
  case h_2=>exact d.elim
  rename_i L J p;split at d
  case h_2=>exact d.elim
  rename_i f F;cases e:a7 D f with
  |false=>rw[e] at d;exact d.elim
  |true=>
   rw[e] at d;simp only[bG] at d;split at d
   case h_2=>exact d.elim
   rename_i B q i;rw[l] at j;cases j with|ref v n=>
   rename_i S z r;rw[p] at v;cases v;have:=n.ty;rw[F] at this;cases this;obtain⟨aw,N⟩:=m.Qs p n;have k:aW w (.st f) z r (.unst::B) q (z.map λk=>(k.1,k.2+fx f b)) ((r.drop (fx f b)).take q.size):=aW.DZ i;exact JE m p (n.append k) (MW s e i u y (by rw[aw];exact xl i)) d
 exact d.elim
def vj (f:bm (X×aG)) (b:ak):h3:=
 match b with
 |.val (.ptr h d) b=>.part d.den (λc=>b=Y c) (λc=>(.val (.ptr h d) (Y c),[]))
 |.ref id a=>match ar f id with
  |some ⟨i,_⟩=>match fm i a with
   |some (.optr _)=>.e4 (.ref id a) []
   |_=>.bad
  |none=>.bad
 |.addr id a=>.e4 (.addr id a) []
 |.eB e g=>.e4 (.eB e g) []
 |_=>.bad
theorem XS (p:cN C st a.tmps w I rt fp) (M:o.op=.nilCheck c) (b:(vj st.h (aT st.g c)).K Q):Yields E C st a w I rt fp o Q:=by
 have d:=p.aT c;unfold vj at b;generalize N:a.eval c=F at d;split at b
 ·rename_i u l m e;obtain⟨m,rfl,b⟩:=b;rw[e] at d;cases d with|val D=>
  obtain⟨_,f,k,n,rfl,aw,z,A,B⟩:=D;exact .pure (v:=.pointer (Y ⟨f,k,bo⟩)) (by simp_all [bN,cW]) (.val (τ:=.ptr u l) (x:=Y m) (cs:=[.pointer (Y ⟨f,k,bo⟩)]) ⟨bn,f,k,n,bn,aw,z,A,B⟩) b
 ·rename_i id y e;split at b
  case h_2=>exact b.elim
  rename_i G m j;split at b
  case h_2=>exact b.elim
  rename_i l t;rw[e] at d;cases d with|ref q i=>
  rw[j] at q;cases q;have:=i.ty;rw[t] at this;cases this;obtain⟨f,k,n,rfl,H,J⟩:=o7 (p.tree id _ j).1 i;exact .pure (v:=.pointer (Y ⟨f,k,bo⟩)) (by simp_all [bN,cW]) (.ref (τ':=.optr l) j i) b
 ·rename_i id y e;rw[e] at d;cases d with|addr j i=>
  exact .pure (by simp_all [bN]) (.addr j i) b
 ·rename_i L O e;rw[e] at d;cases d with|eB s r=>
  exact .pure (by simp_all [bN]) (.eB s r) b
 exact b.elim
def so (d:bv ak) (b a:X):Prop:=
 match d with
 |none=>a=b
 |some (.val (.int _) c)=>c=(a:Z)
 |some _=>b6
def vE (tt:bm (bF×ah)) (k:bm (X×aG)) (j:bF) (d:ak) (g f:bv ak):h3:=
 match gZ tt j with
 |none=>.bad
 |some h=>match d with
  |.val (.a2 l b) e=>bif a7 h b then
   .part ep (λa=>so g 0 a.1/\so f e.length a.2/\a.1<=a.2/\a.2<=e.length) (λa=>(.val (.a2 l b) ((e.take a.2).drop a.1),[])) else .bad
  |.ref id c=>match ar k id with
   |some ⟨i,d⟩=>match fm i c with
    |some (.osl b)=>bif a7 h b then
     .part (bm b.den×X×X) (λa=>eN i d c (.osl b) a.1/\so g 0 a.2.1/\so f a.1.length a.2.2/\a.2.1<=a.2.2/\a.2.2<=a.1.length) (λa=>(.view id c a.2.1 a.2.2,[])) else .bad
    |_=>.bad
   |none=>.bad
  |_=>.bad
def Gy (a:Act) (e:ah5) (c b:X):Prop:=
 match e with
 |none=>b=c
 |some f=>∃d,a.eval f=.int d b
theorem JW (p:gZ E.tt x=Y r) (t:a7 r d=bp) {j f:ah5} (u:o.op=.slice x c j f bo) {g e:X} (y:a.eval c=.slice s g e) (k:Gy a j 0 i) (h:Gy a f g b) (D:i<=b) (F:b<=e):(bN a.eval o).run E.P w=.ok (.value (.slice (if e=i then s else s.map (·.add (i*d.size))) (b-i) (e-i))) w:=by
 obtain⟨H,B,_,m,n⟩:=gZ.ok p;have v:=(n.lay t).sizeOf w;have aq:(0:Z)<=(b:Z)/\(b:Z)<=(e:Z):=⟨aa,aa⟩;have C:(0:Z)<=(i:Z)/\(i:Z)<=(b:Z):=⟨aa,aa⟩;have l:(aj6 bp g e (j.map a.eval) (f.map a.eval) bo).run E.P w=.ok (i,b,e) w:=by
  cases j with
  |none=>
   obtain rfl:i=0:=k;cases f with
   |none=>obtain rfl:b=g:=h;simp[aj6]
   |some A=>obtain⟨z,q⟩:=h;simp_all [aj6,alo,ajo]
  |some J=>
   obtain⟨I,G⟩:=k;cases f with
   |none=>obtain rfl:b=g:=h;simp_all [aj6,alo,ajo]
   |some A=>
    obtain⟨z,q⟩:=h;simp_all [aj6,alo,ajo]
 simp[bN,u,y,Instr.sliceAt,Instr.slice,b8 m,l,v]
theorem wD (h:cN C st a.tmps w I rt fp) {d:ah5} (c:so (d.map (aT st.g)) b i):Gy a d b i:=by
 cases d with
 |none=>exact c
 |some f=>
  have:=h.aT f;simp only[ja,so] at c;split at c
  ·grind
  ·rename_i k m e;simp only[eS] at e;rw[e] at this;subst c;generalize j:a.eval f=n at this;cases this with|val l=>obtain⟨_,rfl⟩:=l;exact⟨k,j⟩
  grind
theorem ac9 (e:cN C st a.tmps w I rt fp) {L y:ah5} (z:o.op=.slice T c L y bo) (b:(vE E.tt st.h T (aT st.g c) (L.map (aT st.g)) (y.map (aT st.g))).K Q):Yields E C st a w I rt fp o Q:=by
 have r:=e.aT c;unfold vE at b;split at b
 ·exact b.elim
 rename_i O v;generalize D:a.eval c=co at r;split at b
 ·rename_i ad i F u;cases f:a7 O i with
  |false=>rw[f] at b;exact b.elim
  |true=>
   rw[f] at b;obtain⟨⟨d,m⟩,⟨j,k,l,s⟩,b⟩:=b;simp only at j k l s b;rw[u] at r;cases r with|val ap=>
   obtain⟨_,P,q,rfl,aw,M,N⟩:=ap;have t:=JW (w:=w) v f z D (wD e j) (wD e k) l aa;have V:((F.take m).drop d).length=m-d:=(by grind);refine .pure t (.val (τ:=.a2 ad i) (x:=(F.take m).drop d) (cs:=[_]) ⟨bn,_,q-d,by rw[V],aa,?_,?_⟩) b
   ·intro bl;by_cases bs:q=d
    ·omega
    simp_all
   by_cases bx:m=d
   ·grind
   right;rcases N with rfl|⟨p,n,rfl,R,an⟩
   ·grind
   refine⟨p,n+d*i.size,by rw[az aa];simp[aja],R,λci av y=>?_⟩;grind
 ·rename_i id am u;split at b
  case h_2=>exact b.elim
  rename_i a0 av B;split at b
  case h_2=>exact b.elim
  rename_i i ce;cases f:a7 O i with
  |false=>rw[f] at b;exact b.elim
  |true=>
   rw[f] at b;obtain⟨⟨F,d,m⟩,⟨G,j,k,l,s⟩,b⟩:=b;simp only at G j k l s b;rw[u] at r;cases r with|ref J H=>
   rw[B] at J;cases J;obtain⟨rfl,a3,A,_⟩:=e.kW B G H;obtain⟨P,q,rfl,A⟩:=A;rcases A with⟨rfl,rfl,rfl,_⟩|⟨p,n,a4,rfl,_,aw,M,N,an⟩
   ·have S:m=0:=(by grind);subst S;have U:d=0:=aa;subst U;exact .pure (JW (w:=w) v f z D (wD e j) (wD e k) (bc _) (bc _)) (.l7 id am) b
   have t:=JW (w:=w) v f z D (wD e j) (wD e k) l aa;have:(if q=d then Y (⟨p,n,bo⟩:Addr) else(Y (⟨p,n,bo⟩:Addr)).map (·.add (d*i.size)))=Y ⟨p,if q=d then n else n+d*i.size,bo⟩:=(by grind [aja]);rw[this] at t;exact .pure t (.view B H l s M) b
 exact b.elim
end
end
section
def iJ:(i:ah)->ah8->bv i.den
 |.int d,b=>match b with
  |[.int e n]=>if d=e then Y n else bo
  |_=>bo
 |.bool,b=>match b with
  |[.bool c]=>Y c
  |_=>bo
 |.str,b=>match b with
  |[.string s]=>Y s
  |_=>bo
 |.a2 _ _,b=>match b with
  |[.slice bo 0 0]=>Y []
  |_=>bo
 |.osl _,b=>match b with
  |[.slice bo 0 0]=>Y []
  |_=>bo
 |.ptr _ _,b=>match b with
  |[.pointer bo]=>Y bo
  |_=>bo
 |.st f,b=>iJ f b
 |.pr a c,b=>match iJ a (b.take a.size),iJ c (b.drop a.size) with
  |some g,Y h=>Y (g,h)
  |_,_=>bo
 |.nil,b=>match b with
  |[]=>Y ()
  |_=>bo
 |.optr _,_=>bo
 |.eK,_=>bo
 |.mp _,_=>bo
 |.fw _ _,_=>bo
 |.fn _ _,_=>bo
theorem pS {M:eD->X->Prop} {w:bC}:∀{τ:ah} {d:ah8} {c:τ.den},iJ τ d=Y c->aS M w τ d c []
 |.int j,d,c,b=>by
  simp only[iJ] at b;split at b
  ·split at b
   ·rename_i f;cases b;subst f;exact⟨bn,bn⟩
   grind
  grind
 |.bool,d,c,b=>by simp only[iJ] at b;split at b<;>cases b;exact⟨bn,bn⟩
 |.str,d,c,b=>by simp only[iJ] at b;split at b<;>cases b;exact⟨bn,bn⟩
 |.a2 _ _,d,c,b=>by simp only[iJ] at b;split at b<;>cases b;exact⟨bn,bo,0,bn,bc _,λ_=>rfl,.inl bn⟩
 |.osl _,d,c,b=>by simp only[iJ] at b;split at b<;>cases b;exact⟨bo,0,bn,.inl ⟨bn,bn,bn,bn⟩⟩
 |.ptr _ _,d,c,b=>by simp only[iJ] at b;split at b<;>cases b;exact⟨bn,bn⟩
 |.st i,d,c,b=>pS (τ:=i) (by grind [iJ])
 |.pr a e,d,c,b=>by
  simp only[iJ] at b;split at b
  ·rename_i c k g h;cases b;exact⟨[],[],bn,pS (τ:=a) g,pS (τ:=e) h⟩
  grind
 |.nil,d,c,b=>by simp only[iJ] at b;split at b<;>cases b;exact⟨bn,bn⟩
 |.optr _,d,c,b=>by grind [iJ]
 |.eK,d,c,b=>by grind [iJ]
 |.mp _,d,c,b=>by grind [iJ]
 |.fw _ _,d,c,b=>by grind [iJ]
 |.fn _ _,d,c,b=>by grind [iJ]
theorem MY (d:X):∀(e:ah8) (b:X) (a:ah6),let f:=(e.zipIdx b).foldl (λa (h:Value×X)=>a.setIfInBounds (d+h.2) h.1) a
 f.size=a.size/\(∀c,c<d+b\/d+b+e.length<=c->f[c]?=a[c]?)/\(d+b+e.length<=a.size->∀c g,e[c]?=Y g->f[d+b+c]?=Y g)
 |[],b,a=>⟨bn,λ_ _=>rfl,λ_ c g i=>by grind⟩
 |x::e,b,a=>by obtain⟨j,k,l⟩:=MY d e (b+1) (a.setIfInBounds (d+b) x);grind [List.zipIdx_cons]
theorem z2 (k:X->bv ep):∀(j:bm (X×Value)) (c:ah6),(∀a∈j,∃f b,k a.1=Y (f,b)/\a.2.cells.size=b/\f+b<=c.size)->(j.Pairwise λa g=>∀o b m q,k a.1=Y (o,b)->k g.1=Y (m,q)->o+b<=m\/m+q<=o)->∃g,amm k c j=Y g/\g.size=c.size/\(∀d,(∀a∈j,∀o b,k a.1=Y (o,b)->d<o\/o+b<=d)->g[d]?=c[d]?)/\(∀a∈j,∀o b,k a.1=Y (o,b)->∀d e,a.2.cells[d]?=Y e->g[o+d]?=Y e)
 |[],c,_,_=>⟨c,bn,bn,λ_ _=>rfl,λa h=>by cases h⟩
 |(i,e)::j,c,v,r=>by
  obtain⟨f,b,t,x,D⟩:=v (i,e) ac;simp only at t x;rw[mM] at r;have w:e.cells.zipIdx.foldl (λl (a:Value×X)=>l.setIfInBounds (f+a.2) a.1) c=(e.cells.toList.zipIdx 0).foldl (λl (a:Value×X)=>l.setIfInBounds (f+a.2) a.1) c:=(by rw[<-Array.foldl_toList,Array.toList_zipIdx]);obtain⟨n,f2,p⟩:=MY f e.cells.toList 0 c;rw[<-w] at n f2 p;simp only[Array.length_toList] at f2 p;generalize A:e.cells.zipIdx.foldl (λl (a:Value×X)=>l.setIfInBounds (f+a.2) a.1) c=u at n f2 p;obtain⟨g,E,y,z,aJ⟩:=z2 k j u (λa h=>by
   grind) r.2
  refine⟨g,?_,by rw[y,n],λd s=>?_,λa h m q B d F C=>?_⟩
  ·grind [amm,decide]
  ·rw[z d (λa h=>s a (hW _ h)),f2 d (by have:=s (i,e) ac f b t;omega)]
  rcases fR.1 h with rfl|h
  ·grind
  grind
section
variable {E:fA} {C:eY} {st:aO} {a:Act} {w:bC} {I:X->Prop} {rt:X->ah8} {fp:X->aie} {o:bR} {Q:ak->bm (X×aG)->Prop}
theorem fq.alloc {w:bC} {c:ah6} {e:bF} {o:X} {d:ah8} (f:∀a b,d[a]?=Y b->c[o+a]?=Y b):fq (w.alloc (.cells c e)) w.heap.size o d:=λa b g=>by simp_all
theorem iC.alloc {w:bC} {a:ah6} {c:bF} {d b:X} (e:b<=a.size):iC (w.alloc (.cells a c)) w.heap.size d b:=λg _ f=>by grind [World.cell?_alloc_new,World.frozen?_alloc_new]
theorem Yields.new {d:X} {t:aG} {cs:ah8} {f:aie} {cells:ah6} {T:bF} (k:ar st.h d=bo) (e:cN C st a.tmps w I rt fp) (n:(bN a.eval o).run E.P w=.ok (.value R) (w.alloc (.cells cells T))) (q:R=cW t.1 cs) (p:aS (bb I C.B) (w.alloc (.cells cells T)) t.1 cs t.2 f) (i:∀c∈f,c=w.heap.size) (l:f.Nodup) (m:Q (.ref d []) [(d,t)]):Yields E C st a w I rt fp o Q:=by
 refine⟨R,_,I,λ_=>cs,λ_=>f,.ref d [],[(d,t)],n,.alloc w _,λ_ b=>b,λ_ b=>.inl b,.one k p l (λc g=>?_),?_,m⟩
 ·rw[i c g];exact⟨bc _,ac,λb=>by have:=e.ib _ (.inl b);omega⟩
 rw[q];have j:ar ([(d,t)]++st.h) d=Y t:=(by rw[yC,ey,au bn]);refine .ref (t:=t) (τ':=t.1) (loc:=bo) j ?_;grind [aW.here,ey,fh]
def vc (tt:bm (bF×ah)) (g:bm (X×ah)) (h:bm (X×aG)) (b:X) (f:bF) (e d:ak):h3:=
 match gZ tt f,ar g b,ar h b with
 |some i,Y (.osl c),bo=>match l8 c,e,d with
  |some j,.val (.int _) e,.val (.int _) d=>bif a7 i c&&b2 c.size 2000 then
   .part ep (λa=>e=(a.1:Z)/\d=(a.2:Z)/\a.1<=a.2/\a.2<=hC) (λa=>(.ref b [],[(b,⟨.osl c,bJ a.1 j⟩)])) else .bad
  |_,_,_=>.bad
 |_,_,_=>.bad
theorem Xi (a:ah6) (d b c:X) (e:Value) (_hz:0<a.size) (h:a[c]?=Y e) (g:b<d):(alp a (d*a.size))[b*a.size+c]?=Y e:=by have i:c<a.size:=(rT.1 h).1;have f:(b+1)*a.size<=d*a.size:=jj _ g;rw[mN,ng] at f;grind [aj7,Nat.add_mul_mod_self_right,Nat.mod_eq_of_lt,alp]
theorem Xk (p:cN C st a.tmps w I rt fp) {m:bO} (V:o.op=.makeSlice x m c) (e:(vc E.tt l st.h b x (aT st.g m) (aT st.g c)).K Q):Yields E C st a w I rt fp o Q:=by
 have r:=p.aT m;have q:=p.aT c;unfold vc at e;split at e
 case h_2=>exact e.elim
 rename_i bx v R co U;split at e
 case h_2=>exact e.elim
 rename_i ci a3 d2 a0 d1 an J H;cases j:(a7 bx v&&b2 v.size 2000) with
 |false=>rw[j] at e;exact e.elim
 |true=>
  rw[j] at e;simp only[bk] at j;obtain⟨⟨n,i⟩,⟨rfl,rfl,M,A⟩,e⟩:=e;simp only at M A e;have dl:=gS j.2;rw[J] at r;rw[H] at q;generalize am:a.eval m=d6 at r;generalize ad:a.eval c=d5 at q;cases r with|val bl=>cases q with|val bs=>
  obtain⟨_,rfl⟩:=bl;obtain⟨_,rfl⟩:=bs;obtain⟨ap,y,_,N,O⟩:=gZ.ok R;have D:=O.lay j.1;obtain⟨t,k,aw,a4,d3,G⟩:=vS D an;obtain⟨d0,_,u,_⟩:=D.info;have z:=u.info;rw[aw] at z;cases z;have F:k.cells.size=v.size:=(by have:=(G (bb I C.B) w).len;omega);have S:(t.bytes:Z)*(i:Z)<=281474976710656:=(by have:t.bytes*i<=48000*hC:=mO (by have:=u.bytes;omega) A;grind [Int.natCast_mul,hC]);have s:=run_make (P:=E.P) w x y t k N aw a4 a3 a0 (n:Z) (i:Z) aa aa S (by grind [hC]);simp only[fJ,u.size] at s;rw[<-F] at s;refine .new (d:=b) (cells:=alp k.cells (i*k.cells.size)) (T:=y) (cs:=[.slice (Y ⟨w.heap.size,0,bo⟩) n i]) (f:=[w.heap.size]) U p ?_ bn ?_ ac ac e
  ·simp[bN,V,am,ad,cW,s]
  refine⟨Y ⟨w.heap.size,0,bo⟩,i,ac,.inr ⟨w.heap.size,0,bJ n [],bn,ac,ac,by grind,iC.alloc (by grind [size_madeCells]),λav ce L ds cv=>?_⟩⟩;have c2:av<n:=(by grind);obtain rfl:ci=ce:=(by grind);obtain rfl:[]=L:=(by grind);refine⟨k.cells.toList,aa,fq.alloc (λap d4 c1=>?_),G _ _⟩;rw[nh,<-F];grind [Xi]
def ws (tt:bm (bF×ah)) (d:bm (X×ah)) (e:bm (X×aG)) (a:X) (c:bF):h3:=
 match ar tt c,ar d a,ar e a with
 |some f,Y b,bo=>match l8 b with
  |some g=>bif a7 f b then .e4 (.ref a []) [(a,⟨.optr b,g⟩)] else .bad
  |none=>.bad
 |_,_,_=>.bad
theorem Yields.box {g:r.den} {cs:ah8} (p:ar st.h b=bo) (i:cN C st a.tmps w I rt fp) (_hT:fi E.P r x) (s:(bN a.eval o).run E.P w=.ok (.value (.pointer (Y ⟨w.heap.size,0,bo⟩))) (w.alloc (.cells cs.toArray x))) (u:∀k,(∀e c,bb I C.B e c->c8 w k c)->aS (bb I C.B) k r cs g []) (q:Q (.ref b []) [(b,⟨.optr r,g⟩)]):Yields E C st a w I rt fp o Q:=by have l:∀e c,bb I C.B e c->c8 w (w.alloc (.cells cs.toArray x)) c:=λe c m=>.of_heap ((hj.alloc w _).heap c (i.ib c (mW m)));have j:=u _ l;have n:=j.len;refine .new (d:=b) (t:=⟨.optr r,g⟩) (cs:=[.pointer (Y ⟨w.heap.size,0,bo⟩)]) (f:=[w.heap.size]) p i s bn ⟨w.heap.size,0,[],cs,bn,bn,n,fq.alloc (λy z v=>by grind),iC.alloc (by grind),j⟩ ac ac q
theorem S4 (g:cN C st a.tmps w I rt fp) (k:o.op=.alloc x) (c:(ws E.tt l st.h b x).K Q):Yields E C st a w I rt fp o Q:=by
 unfold ws at c;split at c
 case h_2=>exact c.elim
 rename_i f q i s j;split at c
 case h_2=>exact c.elim
 rename_i y m;cases d:a7 f q with
 |false=>rw[d] at c;exact c.elim
 |true=>
  rw[d] at c;have e:=(E.ok x f i).lay d;obtain⟨t,r,aw,n,u,p⟩:=vS e m;refine .box (cs:=r.cells.toList) j g e ?_ (λv _=>p _ _) c;simp[bN,k,Instr.alloc,aix,aiM,aw,n,newVar,aiX]
def yT (tt:bm (bF×ah)) (e:bm (X×aG)) (a:X) (d:bF) (b:ak):h3:=
 match ar tt d,ar e a with
 |some f,bo=>match b with
  |.val c b=>bif a7 f c then .e4 (.ref a []) [(a,⟨.optr c,b⟩)] else .bad
  |_=>.bad
 |_,_=>.bad
theorem TC (j:cN C st a.tmps w I rt fp) (t:o.op=.box x c) (d:(yT E.tt st.h b x (aT st.g c)).K Q):Yields E C st a w I rt fp o Q:=by
 have f:=j.aT c;unfold yT at d;split at d
 case h_2=>exact d.elim
 rename_i l r s;split at d
 case h_2=>exact d.elim
 rename_i y B p;cases e:a7 l y with
 |false=>rw[e] at d;exact d.elim
 |true=>
  rw[e] at d;rw[p] at f;generalize u:a.eval c=z at f;cases f with|val i=>
  rename_i m;have k:=(E.ok x l r).lay e;refine .box (cs:=m) s j k ?_ (λA q=>i.mono (λv n e=>⟨e,q v n e⟩) ac) d;simp[bN,t,u,akF,newVar,aiX,ov k i.len i.one]
def coe (a:ah) (b:ak):bv a.den:=
 match b with
 |.val d b=>if h:d=a then Y (h▸b) else bo
 |.dh c=>iJ a c.cells.toList
 |_=>bo
def yX (a:ah):bm ak->bv (bm a.den)
 |[]=>Y []
 |x::c=>match coe a x,yX a c with
  |some d,Y b=>Y (d::b)
  |_,_=>bo
theorem GK (h:fi E.P d x) (c:cP e w u rt fp V R) {f:d.den} (a:coe d V=Y f):aS e w d R.cells.toList f []:=by
 unfold coe at a;split at a
 ·rename_i j i;split at a
  ·rename_i g;subst g;cases a;cases c with|val b=>
   rw[ov h b.len b.one];exact b
  grind
 ·cases c;exact pS a
 grind
def vB:bm (X×bO)->X->bA
 |[],_=>bp
 |q::b,a=>bH q.1 a&&vB b (a+1)
def wE (tt:bm (bF×ah)) (g:bm (X×ah)) (i:bm (X×aG)) (h:bO->ak) (b:X) (f:bF) (d:X) (c:bm (X×bO)):h3:=
 match gZ tt f,ar i b with
 |some e,bo=>
  let a:=match ar g b with|some (.osl a)=>a|_=>e
  bif a7 e a&&b2 a.size 2000&&b2 d 1000&&vB c 0&&bH c.length d then
   match yX a (c.map λj=>h j.2) with
   |some k=>.e4 (.ref b []) [(b,⟨.osl a,k⟩)]
   |none=>.bad
  else .bad
 |_,_=>.bad
theorem L5 {d:ah}:∀{c:bm ak} {b:bm d.den},yX d c=Y b->b.length=c.length/\∀(e:X) (f:d.den),b[e]?=Y f->∃y:ak,c[e]?=Y y/\coe d y=Y f
 |[],b,a=>by cases a;grind
 |y::c,b,a=>by
  simp only[yX] at a;split at a
  ·rename_i l k j g;cases a;obtain⟨h,i⟩:=L5 g;grind
  grind
theorem rI:∀{e:bm (X×bO)} {d:X},vB e d=bp->∀(a:X) (b:X×bO),e[a]?=Y b->b.1=d+a
 |[],_,_,a,b,c=>by grind
 |x::e,d,c,a,b,f=>by
  simp only[vB,bk] at c;cases a with
  |zero=>simp_all
  |succ a=>have:=rI c.2 a b (by grind);omega
theorem TG (G:cN C st a.tmps w I rt fp) {j:bU (X×bO)} (d1:o.op=.buildSlice x b j) (k:(wE E.tt l st.h (aT st.g) i x b j.toList).K Q):Yields E C st a w I rt fp o Q:=by
 unfold wE at k;split at k
 case h_2=>exact k.elim
 rename_i a0 cv c1;generalize ft:(match ar l i with|some (.osl e)=>e|_=>a0)=e at k;simp only at k;cases n:(a7 a0 e&&b2 e.size 2000&&b2 b 1000&&vB j.toList 0&&bH j.toList.length b) with
 |false=>rw[n] at k;exact k.elim
 |true=>
  rw[n] at k;simp only[bk] at n;obtain⟨⟨⟨⟨a4,A⟩,D⟩,F⟩,O⟩:=n;have A:=gS A;have D:=gS D;have O:j.toList.length=b:=fu O;simp only[bG] at k;split at k
  case h_2=>exact k.elim
  rename_i r d6;obtain⟨am,M,_,ci,co⟩:=gZ.ok cv;have u:=co.lay a4;obtain⟨J,ek,an,_⟩:=u.info;have fn:=u.pos;obtain⟨bl,bs⟩:=L5 d6;simp only[e9] at bl;have d5:r.length=b:=aa;have ex:b*e.size<=16777216:=(by have:b*e.size<=1000*2000:=mO D A;omega);have R:∀(c:X) (m:X×bO),j.toList[c]?=Y m->∃p:e.den,r[c]?=Y p/\aS (bb I C.B) w e (a.eval m.2).cells.toList p []:=(by intro c m v;have ds:c<r.length:=(by grind);obtain⟨f8,aq,y⟩:=bs c r[c] ac;rw[jh,v] at aq;simp only[ja,eS] at aq;subst aq;exact⟨r[c],ac,GK u (G.aT m.2) y⟩);obtain⟨ad,c2,dl⟩:∃a3:ah6,(b*e.size=0->a3=#[])/\(b*e.size≠0->∃s,(aix M).run E.P w=.ok s w/\a3=s.cells):=by
   by_cases q:b*e.size=0
   ·simp_all
   obtain⟨s,_,d8⟩:=fi.H1 u;exact⟨s.cells,λk=>absurd k q,λ_=>⟨s,by simp[aix,aiM,an.info,d8 J an.info],bn⟩⟩
  obtain⟨ap,av,f3,f4,aJ⟩:=z2 (λJ=>Y (J*e.size,e.size)) (j.toList.map λm=>(m.1,a.eval m.2)) ((Array.range (b*e.size)).map (ad[· %ad.size]!)) (by
   intro m d3;obtain⟨f1,d2,rfl⟩:=eZ.1 d3;obtain⟨c,v,rfl⟩:=hu.1 d2;have z:j.toList[c]?=Y j.toList[c]:=ac;obtain⟨p,_,H⟩:=R c _ z;have el:=rI F c _ z;have:(c+1)*e.size<=b*e.size:=jj _ aa;rw[mN,ng] at this;refine⟨_,_,bn,by have:=H.len;omega,?_⟩;grind) (by
   rw[h2];intro c L v d0 ds fT f5 f0 f6 aq y;simp only[List.getElem_map,eS,ie] at aq y;simp only[e9] at v d0;have bx:=rI F c j.toList[c] ac;have f2:=rI F L j.toList[L] ac;obtain⟨rfl,rfl⟩:=aq;obtain⟨rfl,rfl⟩:=y;left;rw[bx,f2];have:(0+c+1)*e.size<=(0+L)*e.size:=jj _ aa;grind)
  have fs:ap.size=b*e.size:=(by grind);refine .new (d:=i) (t:=⟨.osl e,r⟩) (cells:=ap) (T:=M) (cs:=[.slice (Y ⟨w.heap.size,0,bo⟩) b b]) (f:=[w.heap.size]) c1 G ?_ bn ?_ ac ac k
  ·have d4:=u.sizeOf w;have fl:¬(16777216<b*e.size):=aa;have S:(akG (λp=>(p.fst,a.eval p.snd)) j).toList=j.toList.map λm=>(m.1,a.eval m.2):=ac;simp only[bN,d1,Instr.buildSlice,bY,b8 ci,b1,d4];rw[az aa];by_cases q:b*e.size=0
   ·rw[au q];obtain rfl:=c2 q;rw[S];simp only[bY,cx,b1,av,aiX,newObj];rfl
   rw[az q];obtain⟨s,d7,rfl⟩:=dl q;rw[S];simp only[bY,cx,b1,d7,av,aiX,newObj];rfl
  refine⟨Y ⟨w.heap.size,0,bo⟩,b,by rw[d5],.inr ⟨w.heap.size,0,bJ b [],bn,ac,by grind,(by grind),iC.alloc aa,λc p ce H em=>?_⟩⟩;have v:c<b:=(by grind);obtain rfl:[]=ce:=(by grind);have z:j.toList[c]?=Y (j.toList[c]'(by omega)):=by simp
  obtain⟨f7,V,U⟩:=R c _ z;rw[H] at V;obtain rfl:=gC V;refine⟨_,U.len,fq.alloc (λam d9 eq=>?_),U.mono (λfz N n=>⟨n,.of_heap ((hj.alloc w _).heap N (G.ib N (mW n)))⟩) ac⟩;have:=aJ (j.toList[c].1,a.eval j.toList[c].2) (eZ.2 ⟨j.toList[c],cR _,bn⟩) _ _ rfl am d9 (by grind);grind [rI]
end
end
section
def l4 (a:bm (X×bO)) (b:X):ah5:=ar a b
def qa (
 g:bO->ak) (e:bm (X×bO)):ah->X->bv aG
 |.pr a h,d=>
  match(match l4 e d with
   |none=>match l8 a with
    |some j=>Y (⟨a,j⟩:aG)
    |none=>bo
   |some c=>match g c with
    |.val f b=>bif a7 a f then Y ⟨f,b⟩ else bo
    |.dh i=>match iJ a i.cells.toList with
     |some b=>Y ⟨a,b⟩
     |none=>bo
    |_=>bo),qa g e h (d+1) with
  |some c,Y b=>Y ⟨.pr c.1 b.1,(c.2,b.2)⟩
  |_,_=>bo
 |.nil,_=>Y ⟨.nil,()⟩
 |_,_=>bo
def mq:bm (X×bO)->X->bA
 |[],_=>bp
 |q::b,a=>b2 a q.1&&mq b (q.1+1)
def gG:ah->X
 |.pr _ a=>gG a+1
 |_=>0
theorem H5:∀{e:bm (X×bO)} {d:X},mq e d=bp->∀b∈e,d<=b.1
 |[],_,_,b,a=>by cases a
 |x::e,d,a,b,c=>by
  simp only[mq,bk] at a;rcases fR.1 c with rfl|c
  ·simp_all
  have:=H5 a.2 b c;have:=gS a.1;omega
def H7:∀{b:bm (X×bO)} {d:X},mq b d=bp->b.Pairwise λc f=>c.1<f.1
 |[],_,_=>akH
 |x::b,d,a=>by simp only[mq,bk] at a;exact anz (λc e=>by have:=H5 a.2 c e;omega) (H7 a.2)
theorem Ak {e:Type}:∀{d:bm (X×e)} {b:X} {c:e},ar d b=Y c->(b,c)∈d
 |[],_,_,a=>by cases a
 |(f,v0)::r,b,c,a=>by
  rw[ey] at a;split at a
  ·grind
  exact hW _ (Ak a)
def It {g:Type}:∀{e:bm (X×g)} {d:X},ar e d=bo->∀c∈e,c.1≠d
 |[],_,_,c,a=>by cases a
 |(h,v0)::r,d,b,c,a=>by
  rw[ey] at b;split at b
  ·cases b
  rename_i f;rcases fR.1 a with rfl|a
  ·exact f
  exact It b c a
theorem rA {j:b0}:∀{u:ah} {l:bm aiE} {e:X} {f:ah8},iB j u l e f->∀d,d<gG u->∃h i,fF u d=Y (h,i)
 |.pr a g,k::m,e,f,c,0,_=>⟨_,_,bn⟩
 |.pr a g,k::m,e,f,c,d+1,b=>by obtain⟨h,i,n⟩:=rA (u:=g) c.2.2.2.2 d (by grind [gG]);grind [fF]
 |.pr _ _,[],_,_,c,_,_=>c.elim
 |.int _,_,_,_,_,_,b=>by grind [gG]
 |.bool,_,_,_,_,_,b=>by grind [gG]
 |.str,_,_,_,_,_,b=>by grind [gG]
 |.a2 _ _,_,_,_,_,_,b=>by grind [gG]
 |.osl _,_,_,_,_,_,b=>by grind [gG]
 |.ptr _ _,_,_,_,_,_,b=>by grind [gG]
 |.optr _,_,_,_,_,_,b=>by grind [gG]
 |.st _,_,_,_,_,_,b=>by grind [gG]
 |.nil,_,_,_,_,_,b=>by grind [gG]
 |.eK,_,_,_,_,_,b=>by grind [gG]
theorem uX:∀{u:ah} {e c:X} {s s':bm aZ} {t t':ah},fF u e=Y (s,t)->fF u c=Y (s',t')->e<c->fx u e+t.size<=fx u c
 |.pr a f,0,c+1,s,s',t,t',b,d,_=>by simp only[fF,eS,ie] at b;obtain⟨_,rfl⟩:=b;simp[fx]
 |.pr a f,e+1,c+1,s,s',t,t',b,d,k=>by
  simp only[fF] at b d;cases g:fF f e with
  |none=>grind
  |some i=>
   cases h:fF f c with
   |none=>grind
   |some j=>
    rw[g] at b;rw[h] at d;simp only[eS,ie] at b d;obtain⟨_,rfl⟩:=b;obtain⟨_,rfl⟩:=d;have:=uX (u:=f) (s:=i.1) (t:=i.2) (s':=j.1) (t':=j.2) g h aa;grind [fx]
 |.int _,_,_,_,_,_,_,b,_,_=>by cases b
 |.bool,_,_,_,_,_,_,b,_,_=>by cases b
 |.str,_,_,_,_,_,_,b,_,_=>by cases b
 |.a2 _ _,_,_,_,_,_,_,b,_,_=>by cases b
 |.osl _,_,_,_,_,_,_,b,_,_=>by cases b
 |.ptr _ _,_,_,_,_,_,_,b,_,_=>by cases b
 |.optr _,_,_,_,_,_,_,b,_,_=>by cases b
 |.st _,_,_,_,_,_,_,b,_,_=>by cases b
 |.nil,_,_,_,_,_,_,b,_,_=>by cases b
 |.eK,_,_,_,_,_,_,b,_,_=>by cases b
theorem HK:∀{u:ah} {c:X} {s:bm aZ} {t:ah},fF u c=Y (s,t)->c<gG u
 |.pr a d,0,_,_,_=>by simp[gG]
 |.pr a d,c+1,s,t,b=>by
  simp only[fF] at b;split at b
  ·rename_i e f;have:=HK (u:=d) (s:=e.1) (t:=e.2) f;grind [gG]
  grind
 |.int _,_,_,_,b=>by cases b
 |.bool,_,_,_,b=>by cases b
 |.str,_,_,_,b=>by cases b
 |.a2 _ _,_,_,_,b=>by cases b
 |.osl _,_,_,_,b=>by cases b
 |.ptr _ _,_,_,_,b=>by cases b
 |.optr _,_,_,_,b=>by cases b
 |.st _,_,_,_,b=>by cases b
 |.nil,_,_,_,b=>by cases b
 |.eK,_,_,_,b=>by cases b
theorem H6:∀{d:bm (X×bO)} {e:X} {b:X×bO},mq d e=bp->b∈d->l4 d b.1=Y b.2
 |[],_,_,_,a=>by cases a
 |x::d,e,b,a,c=>by
  simp only[mq,bk] at a;obtain⟨f,g⟩:=x;unfold l4;rw[ey];rcases fR.1 c with rfl|c
  ·rw[au bn]
  have:=H5 a.2 b c;simp only at this;rw[az aa];exact H6 a.2 c
section
variable {E:fA} {C:eY} {st:aO} {a:Act} {w:bC} {I:X->Prop} {rt:X->ah8} {fp:X->aie} {o:bR} {Q:ak->bm (X×aG)->Prop}
def yS (tt:bm (bF×ah)) (e:bO->ak) (d:bF) (a:bm (X×bO)):h3:=
 match lA tt d with
 |none=>.bad
 |some c=>bif mq a 0&&a.all (λf=>ca f.1 (gG c)) then match qa e a c 0 with
  |some b=>.e4 (.val (.st b.1) b.2) []
  |none=>.bad
  else .bad
theorem Oi {z:b0} {l:eD->X->Prop} {b:bm (X×aG)} {q:bO->ak} {j:bO->Value} (v:∀c,cP l w b rt fp (q c) (j c)) {parts:bm (X×bO)} {cells:ah8}:∀{u:ah} {n:X} {B:bm aiE} {off:X} {zs:ah8} {i:aG},iB z u B off zs->qa q parts u n=Y i->cells.length=off+u.size->(∀e p d,fF u e=Y (p,d)->(∀c,l4 parts (n+e)=Y c->(j c).cells.size=d.size/\(cells.drop (off+fx u e)).take d.size=(j c).cells.toList)/\(l4 parts (n+e)=bo->(cells.drop (off+fx u e)).take d.size=(zs.drop (fx u e)).take d.size))->aS l w i.1 (cells.drop off) i.2 []/\i.1.size=u.size
 |.pr a A,n,L::V,off,zs,i,r,g,E,o=>by
  simp only[qa] at g;split at g
  case h_2=>cases g
  rename_i c am h I;cases g;obtain⟨M,C,N,⟨R,an,aw,T,U⟩,D⟩:=r;have t:=o 0 _ a bn;simp only[nf,fx,lP] at t;have O:aS l w c.1 ((cells.drop off).take a.size) c.2 []/\c.1.size=a.size:=by
   split at h
   ·grind [vS]
   rename_i k F;have f:=v k;obtain⟨S,x⟩:=t.1 k F;split at h
   ·rename_i d K m;cases s:a7 a d with
    |false=>grind
    |true=>
     rw[s] at h;cases h;rw[m] at f;rw[x];generalize H:j k=J at f;cases f with|val y=>
     rw[ov (C.lay s) y.len y.one];grind [a7.size]
   ·rename_i J m;split at h
    ·rename_i K Q;cases h;rw[m] at f;rw[x];generalize H:j k=ad at f;cases f;grind [pS]
    grind
   grind
  have P:=Oi v (parts:=parts) (cells:=cells) (u:=A) (n:=n+1) (off:=off+a.size) (zs:=zs.drop a.size) D I (by grind [ah.size]) (by
   intro e p d G;have:=o (e+1) (.snd::p) d (by simp[fF,G]);grind [aj3,fx])
  refine⟨⟨[],[],bn,?_,?_⟩,by grind [ah.size]⟩
  ·grind
  simp_all
 |.nil,n,[],off,zs,i,r,g,E,o=>by cases g;exact⟨⟨bn,by grind [List.drop_eq_nil_iff,ah.size]⟩,bn⟩
 |.pr _ _,_,[],_,_,_,b,_,_,_=>b.elim
 |.nil,_,_::_,_,_,_,b,_,_,_=>b.elim
 |.int _,_,_,_,_,_,b,_,_,_=>by cases b
 |.bool,_,_,_,_,_,b,_,_,_=>by cases b
 |.str,_,_,_,_,_,b,_,_,_=>by cases b
 |.a2 _ _,_,_,_,_,_,b,_,_,_=>by cases b
 |.osl _,_,_,_,_,_,b,_,_,_=>by cases b
 |.ptr _ _,_,_,_,_,_,b,_,_,_=>by cases b
 |.optr _,_,_,_,_,_,b,_,_,_=>by cases b
 |.st _,_,_,_,_,_,b,_,_,_=>by cases b
 |.eK,_,_,_,_,_,b,_,_,_=>by cases b
theorem Oj {z:b0} {m:eD->X->Prop} {b:bm (X×aG)} {o:bO->ak} {h:bO->Value} (p:∀c,cP m w b rt fp (o c) (h c)) {s:bm (X×bO)}:∀{u:ah} {n:X} {B:bm aiE} {r:X} {y:ah8} {x:aG},iB z u B r y->qa o s u n=Y x->∀e v g,fF u e=Y (v,g)->∀c,l4 s (n+e)=Y c->(h c).cells.size=g.size
 |.pr a A,n,N::T,r,y,x,E,k,e,v,g,d,c,q=>by
  simp only[qa] at k;split at k
  case h_2=>cases k
  rename_i V ad i I;obtain⟨O,C,P,⟨Q,am,aw,R,S⟩,D⟩:=E;cases e with
  |zero=>
   simp only[fF,eS,ie] at d;obtain⟨_,rfl⟩:=d;rw[nf] at q;rw[q] at i;have f:=p c;simp only at i;split at i
   ·rename_i g L j;cases F:a7 a g with
    |false=>grind
    |true=>
     rw[j] at f;generalize H:h c=K at f;cases f with|val l=>
     rw[ov (C.lay F) l.len l.one];have:=l.len;grind [a7.size]
   ·rename_i K j;split at i
    ·rename_i L J;rw[j] at f;generalize H:h c=U at f;cases f;have:=(pS (M:=m) (w:=w) J).len;omega
    grind
   grind
  |succ e=>
   simp only[fF] at d;split at d
   ·rename_i t G;simp only[eS,ie] at d;obtain⟨_,rfl⟩:=d;exact Oj p (u:=A) (n:=n+1) D I e t.1 t.2 G c (by rwa[(aa:n+1+e=n+(e+1))])
   grind
 |.pr _ _,_,[],_,_,_,b,_,_,_,_,_,_,_=>b.elim
 |.nil,_,_,_,_,_,_,_,_,_,_,d,_,_=>by cases d
 |.int _,_,_,_,_,_,b,_,_,_,_,_,_,_=>by cases b
 |.bool,_,_,_,_,_,b,_,_,_,_,_,_,_=>by cases b
 |.str,_,_,_,_,_,b,_,_,_,_,_,_,_=>by cases b
 |.a2 _ _,_,_,_,_,_,b,_,_,_,_,_,_,_=>by cases b
 |.osl _,_,_,_,_,_,b,_,_,_,_,_,_,_=>by cases b
 |.ptr _ _,_,_,_,_,_,b,_,_,_,_,_,_,_=>by cases b
 |.optr _,_,_,_,_,_,b,_,_,_,_,_,_,_=>by cases b
 |.st _,_,_,_,_,_,b,_,_,_,_,_,_,_=>by cases b
 |.eK,_,_,_,_,_,b,_,_,_,_,_,_,_=>by cases b
theorem run_places {P:b0} (w:bC):∀(d:ah) (h:bm aiE) (c:X) (g:ah8),iB P d h c g->(h.mapM λe=>do ajp (e.offset,<-ai2 e.type):Sem aig).run P w=.ok ((bI (gG d)).map λf=>(c+fx d f,match fF d f with|some k=>k.2.size|none=>0)) w
 |.pr a i,e::l,c,g,b=>by have j:=run_places w i l (c+a.size) (g.drop a.size) b.2.2.2.2;simp only[List.mapM_cons,bY,b.2.1.sizeOf,b1,cx,j];simp only[gG,List.range_succ_eq_map,h8,oI,b.1,fx,nf,fF];congr 2;apply h7;intro f _;simp only[Function.comp,fx,fF];grind
 |.nil,[],_,_,_=>rfl
 |.pr _ _,[],_,_,b=>b.elim
 |.nil,_::_,_,_,b=>b.elim
 |.int _,_,_,_,b=>by cases b
 |.bool,_,_,_,b=>by cases b
 |.str,_,_,_,b=>by cases b
 |.a2 _ _,_,_,_,b=>by cases b
 |.osl _,_,_,_,b=>by cases b
 |.ptr _ _,_,_,_,b=>by cases b
 |.optr _,_,_,_,b=>by cases b
 |.st _,_,_,_,b=>by cases b
 |.eK,_,_,_,b=>by cases b
theorem Tz (ap:cN C st a.tmps w I rt fp) {i:bU (X×bO)} (c1:o.op=.build x i) (e:(yS E.tt (aT st.g) x i.toList).K Q):Yields E C st a w I rt fp o Q:=by
 unfold yS at e;split at e
 ·exact e.elim
 rename_i b O;cases p:(mq i.toList 0&&i.toList.all (λc=>ca c.1 (gG b))) with
 |false=>rw[p] at e;exact e.elim
 |true=>
  rw[p] at e;simp only[bk,g0] at p;obtain⟨a3,F⟩:=p;simp only[bG] at e;split at e
  case h_2=>exact e.elim
  rename_i d6 av;obtain⟨q,r,j,a4,d9,bl,bs,m,ek⟩:∃q r j,E.P.info? x=some q/\q.size=b.size/\q.zero=some (.agg j)/\E.P.underlying x=some (.struct r)/\iB E.P b r.toList 0 j.toList/\j.size=b.size:=by
   unfold lA at O;split at O
   ·rename_i f3 ce;cases O;obtain⟨_,q,r,j,aw,fl,_,fn,fs,ft,fz⟩:=E.ok x _ ce;grind
   grind
  have S:=Oj (λd=>ap.aT d) m av;have R:=run_places (P:=E.P) w b r.toList 0 j.toList m;simp only[nh] at R S;generalize em:((bI (gG b)).map λk=>(fx b k,match fF b k with|some c=>c.2.size|none=>0))=U at R;have z:∀k M l,fF b k=Y (M,l)->k<gG b->U.toArray[k]?=Y (fx b k,l.size):=(by grind);obtain⟨L,d2,fT,d3,aJ⟩:=z2 (λq=>U.toArray[q]?) (i.toList.map λc=>(c.1,a.eval c.2)) j (by
   intro c A;obtain⟨h,G,rfl⟩:=eZ.1 A;have t:h.1<gG b:=gS (F h G);obtain⟨M,l,f⟩:=rA m h.1 t;refine⟨_,_,z _ _ _ f t,S _ _ _ f h.2 ?_,by simp_all [xl]⟩;grind [H6]) (by
   rw[py];refine(H7 a3).imp_of_mem ?_;intro c V A ds t d1 d4 ex f0 aq ad;have D:c.1<gG b:=gS (F c A);have a0:V.1<gG b:=gS (F V ds);obtain⟨d5,d7,s⟩:=rA m c.1 D;obtain⟨f1,f2,p⟩:=rA m V.1 a0;rw[z _ _ _ s D] at aq;rw[z _ _ _ p a0] at ad;cases aq;cases ad;exact .inl (uX s p t))
  have eq:L.toList.length=b.size:=(by grind);obtain⟨an,d8⟩:=Oi (w:=w) (λd=>ap.aT d) (parts:=i.toList) (cells:=L.toList) (u:=b) (n:=0) (off:=0) m av aa (by
   intro J M l f;have ci:J<gG b:=HK f;simp only[nh];have el:=xl f;refine⟨λd H=>?_,λH=>?_⟩
   ·have co:=Ak H;have T:=S J M l f d H;refine⟨T,?_⟩;apply hO;intro B;rcases cQ B l.size with y|y
    ·obtain⟨N,d0⟩:∃N,(a.eval d).cells[B]?=some N:=⟨_,Bo aa⟩;have:=aJ (J,a.eval d) (eZ.2 ⟨(J,d),co,bn⟩) _ _ (z _ _ _ f ci) B N d0;grind
    grind
   apply hO;intro B;rcases cQ B l.size with y|y
   ·rw[r2 y,r2 y,pw,pw];simp only[Bp];refine d3 _ ?_;intro c A d1 d4 aq;obtain⟨h,G,rfl⟩:=eZ.1 A;have cv:=It H h G;have D:h.1<gG b:=gS (F h G);obtain⟨d5,d7,s⟩:=rA m h.1 D;rw[z _ _ _ s D] at aq;cases aq;rcases Nat.lt_or_gt_of_ne cv with t|bx
    ·have:=uX s f t;omega
    have:=uX f s bx;omega
   grind)
  rw[lP] at an;refine .pure (v:=.agg L) ?_ (.val (τ:=.st d6.1) (cs:=L.toList) an) e;have dl:(akG (λd=>(d.fst,a.eval d.snd)) i).toList=i.toList.map λc=>(c.1,a.eval c.2):=ac;have c2:(r.mapM λam=>do ajp (am.offset,<-ai2 am.type):Sem (bU ep)).run E.P w=.ok U.toArray w:=(by rw[alq,Sem.run_map,R];rfl);have T:(aix x).run E.P w=.ok (.agg j) w:=(by simp[aix,aiM,a4,bl]);simp only[bN,c1,Instr.build,bY,T,b8 bs,b1,c2,dl,Value.cells,d2];rfl
end
end
section
def gb {α:Type}:bm (Z×α)->Z->bv α
 |[],_=>bo
 |(a,v)::r,k=>if a=k then Y v else gb r k
def kB {α:Type}:bm (Z×α)->Z->α->bm (Z×α)
 |[],k,v=>[(k,v)]
 |(a,u)::r,k,v=>if k<a then(k,v)::(a,u)::r else if k=a then(k,v)::r else(a,u)::kB r k v
def jd {α:Type} (l:bm (Z×α)) (a:Z):bm (Z×α):=l.filter λb=>br (b.1≠a)
def mu {α:Type} (b:bv (bm (Z×α)×X)) (a:Z):bv α:=b.bind λc=>gb c.1 a
def xI {α:Type} (a:bv (bm (Z×α)×X)):Z:=match a with|some b=>(b.1.length:Z)|none=>0
section
variable {α:Type}
theorem Eu:∀{l:bm (Z×α)} {c:Z} {d:α},gb l c=Y d->(c,d)∈l
 |[],_,_,b=>by cases b
 |(a,u)::r,c,d,b=>by
  simp only[gb] at b;split at b
  ·grind
  exact hW _ (Eu b)
theorem N3:∀{l:bm (Z×α)} {c:Z},gb l c=bo->∀d,(c,d)∉l
 |[],_,_,_=>by simp
 |(a,u)::r,c,b,d=>by
  simp only[gb] at b;split at b
  ·cases b
  rename_i g;intro f;rcases fR.1 f with e|e
  ·grind
  exact N3 b d e
theorem QX {l:bm (Z×α)} (c:l.Pairwise (λa b=>a.1<b.1)):(l.map (·.1)).Nodup:=by grind
theorem Xg {l:bm (Z×α)} (c:(l.map (·.1)).Nodup) {a:Z} {b:α}:gb l a=Y b↔(a,b)∈l:=by
 constructor
 ·exact Eu
 intro d
 induction l with
 |nil=>cases d
 |cons e h g=>
  obtain⟨f,i⟩:=e;simp only[h8,kk] at c;simp only[gb];grind
theorem N4:∀{l:bm (Z×α)} {d:Z} {e:α} {c:Z×α},c∈kB l d e->c=(d,e)\/c∈l
 |[],d,e,c,b=>by grind [kB]
 |(a,u)::r,d,e,c,b=>by
  simp only[kB] at b;split at b
  ·grind
  split at b
  ·grind
  rcases fR.1 b with b|b
  ·grind
  exact(N4 b).imp id (hW _)
theorem Iz:∀{l:bm (Z×α)} {c:Z} {d:α},l.Pairwise (λa b=>a.1<b.1)->(kB l c d).Pairwise (λa b=>a.1<b.1)
 |[],c,d,_=>by simp[kB]
 |(a,u)::r,c,d,h=>by
  rw[mM] at h;simp only[kB];split
  ·grind [aj8]
  rename_i g;split
  ·grind [aj8]
  rename_i f;rw[mM];refine⟨λi e=>?_,Iz h.2⟩;rcases N4 e with rfl|e
  ·omega
  grind
def Xe {l:bm (Z×α)} {d:Z} (c:l.Pairwise (λa b=>a.1<b.1)):(jd l d).Pairwise (λa b=>a.1<b.1):=c.filter _
theorem Iy:∀{l:bm (Z×α)} {k:Z} {v:α},l.Pairwise (λa b=>a.1<b.1)->(kB l k v).Perm ((k,v)::jd l k)
 |[],k,v,_=>by simp[kB,jd]
 |(a,u)::r,k,v,h=>by
  rw[mM] at h;simp only[kB];split
  ·rename_i d;have:jd ((a,u)::r) k=(a,u)::r:=by
    unfold jd;grind [ajH]
   rw[this]
  rename_i d;split
  ·rename_i c;subst c;have:jd ((k,u)::r) k=r:=by
    unfold jd;rw[n0,az ac,mL];grind
   rw[this]
  rename_i c;have:jd ((a,u)::r) k=(a,u)::jd r k:=(by unfold jd;grind);rw[this];exact((Iy h.2).cons _).trans (.swap _ _ _)
end
section
variable {P:b0} {w:bC} {b:X} {e3:bU cm} {c:X}
theorem nI:iS w b=Y (e3,c)↔w.heap[b]?=Y (.map e3 c):=by grind [iS]
def qi (a:w.heap[b]?=Y (.map e3 c)):(setObj b (.map o i)).run P w=.ok () {w with heap:=w.heap.setIfInBounds b (.map o i)}:=by simp[setObj,Sem.run,a]
def run_getObj_map (a:w.heap[b]?=Y (.map e3 c)):(getObj b).run P w=.ok (.map e3 c) w:=by simp[getObj,Sem.run,a]
theorem MS {j:cw} (b:Z):∀(e3:bm cm) (c:aif) (d:X),e3.map (·.key)=c.map (aiu .i64)->b∉c->ajI (.int j) (.int .i64 b) e3 d=Y bo
 |[],_,_,_,_=>rfl
 |e::e3,[],_,a,_=>by cases a
 |e::e3,f::c,d,a,h=>by simp only[h8,hN] at a;have i:(b==f)=bq:=(by grind);simp only[ajI,a.1,alr,cj,i];exact MS b e3 c (d+1) a.2 (λg=>h (hW _ g))
theorem MT {kd:cw} (b:Z):∀(e3:bm cm) (d:aif) (f:X),e3.map (·.key)=d.map (aiu .i64)->b∈d->∃c e,d[c]?=Y b/\e3[c]?=Y e/\ajI (.int kd) (.int .i64 b) e3 f=Y (Y (f+c,e.val))
 |[],[],_,_,a=>by cases a
 |[],_::_,_,a,_=>by cases a
 |e::e3,[],_,a,_=>by cases a
 |e::e3,g::d,f,a,m=>by
  simp only[h8,hN] at a;by_cases h:b=g
  ·subst h;refine⟨0,e,bn,bn,?_⟩;simp_all [cj,aiN,ajI,alr]
  have n:(b==g)=bq:=(by grind);obtain⟨c,i,j,k,l⟩:=MT b e3 d (f+1) a.2 ((fR.1 m).resolve_left h);refine⟨c+1,i,by simpa using j,by simpa using k,?_⟩;simp only[ajI,a.1,alr,cj,n];rw[l];grind
structure hk (M:eD->X->Prop) (w:bC) (t:ah) (b:X) (l:bm (Z×t.den)) (c:X) (e3:bU cm) (L:bm (Z×X×t.den)):Prop where
 o4:km L l c
 h:w.heap[b]?=Y (.map e3 c)
 n:e3.size=L.length
 e:∀(i:X) (q:Z×X×t.den),L[i]?=Y q->∃ds:ah8,ds.length=t.size/\e3[i]?=Y (akz (.int .i64 q.1) (cW t ds) q.2.1)/\aS M w t ds q.2.2 []
variable {M:eD->X->Prop} {t:ah} {l:bm (Z×t.den)} {L:bm (Z×X×t.den)}
theorem hk.keys (f:hk M w t b l c e3 L):e3.toList.map (·.key)=(L.map (·.1)).map (aiu .i64):=by
 apply hO;intro d;simp only[jh,Bp];rcases cQ d L.length with a|a
 ·obtain⟨g,_,h,_⟩:=f.e d L[d] (ba a);grind
 rw[qE a,Array.getElem?_eq_none (by rw[f.n];exact a)];rfl
def km.keys {α:Type} {L:bm (Z×X×α)} {l:bm (Z×α)} {c:X} (a:km L l c):(L.map (·.1)).Perm (l.map (·.1)):=by have:=a.2.1.map (·.1);rwa[oI] at this
def km.nd {α:Type} {L:bm (Z×X×α)} {l:bm (Z×α)} {c:X} (a:km L l c):(L.map (·.1)).Nodup:=a.keys.nodup_iff.2 (QX a.1)
def km.mem {α:Type} {L:bm (Z×X×α)} {l:bm (Z×α)} {c:X} (b:km L l c) {a:Z×X×α} (d:a∈L):gb l a.1=Y a.2.2:=
 (Xg (QX b.1)).2 (b.2.1.mem_iff.1 (eZ.2 ⟨a,d,bn⟩))
theorem km.len {α:Type} {L:bm (Z×X×α)} {l:bm (Z×α)} {c:X} (a:km L l c):L.length=l.length:=by have:=a.2.1.length_eq;grind
theorem JO {P:b0} {w:bC} (e:P.underlying a=Y (.int v)) {b:Z} {e3:bm cm} {c:bv (X×Value)} (d:ajI (.int v) (.int .i64 b) e3 0=Y c):(aj9 a (.int .i64 b) e3).run P w=.ok c w:=by simp_all [bY,b8,b1,aj9]
def ow {P:b0} {w:bC} (c:P.underlying a=Y (.int v)) (b:bA) (e:X) (d:Z):(amn b (e+1) a (.int .i64 d)).run P w=.ok () w:=by simp[amn,bY,b8 c]
theorem hk.find (j:hk M w t b l c e3 L) (u:P.underlying a=Y (.int v)) (d:Z):(gb l d=bo/\(∀o∈L,o.1≠d)/\∀f,(aj9 a (.int .i64 d) e3.toList).run P f=.ok bo f)\/∃h m i g,gb l d=Y i/\L[h]?=Y (d,m,i)/\g.length=t.size/\e3[h]?=Y ⟨.int .i64 d,cW t g,m⟩/\aS M w t g i []/\∀f,(aj9 a (.int .i64 d) e3.toList).run P f=.ok (Y (h,cW t g)) f:=by
 by_cases k:d∈L.map (·.1)
 ·obtain⟨h,q,r,s,B⟩:=MT (kd:=v) d e3.toList _ 0 j.keys k;rw[jh] at r;obtain⟨⟨C,m,i⟩,n,rfl⟩:=fC.1 r;obtain⟨g,x,p,y⟩:=j.e h _ n;rw[Bp,p] at s;cases s;refine .inr ⟨h,m,i,g,j.o4.mem (i6 n),n,x,p,y,λf=>JO u ?_⟩;grind
 refine .inl ⟨?_,λo A q=>k (eZ.2 ⟨o,A,q⟩),λf=>JO u (MS d _ _ 0 j.keys k)⟩;cases z:gb l d with
 |none=>rfl
 |some i=>exact absurd (j.o4.keys.mem_iff.2 (eZ.2 ⟨_,Eu z,bn⟩)) k
theorem hk.empty (M:eD->X->Prop) (t:ah) (a:w.heap[b]?=Y (.map #[] 0)):hk M w t b [] 0 #[] []:=
 ⟨⟨.nil,.refl _,.nil,ac⟩,a,bn,ac⟩
def vi {α:Type} (L:bm (Z×X×α)) (a:Z) (d:α) (c:X):bm (Z×X×α)×X:=
 if a∈L.map (·.1) then(L.map λb=>if b.1=a then(a,b.2.1,d) else b,c) else(L++[(a,c,d)],c+1)
theorem PO {α:Type} {c:Z} {g:α}:∀{b:bm (Z×α)},(b.map (·.1)).Nodup->c∈b.map (·.1)->(b.map λd=>if d.1=c then(c,g) else d).Perm ((c,g)::jd b c)
 |[],_,e=>by cases e
 |(a,u)::b,e,j=>by
  simp only[h8,kk] at e;simp only[h8];by_cases h:a=c
  ·subst h;rw[au bn];have i:(b.map λd=>if d.1=a then(a,g) else d)=b:=by
    conv=>rhs;rw[<-List.map_id b]
    refine h7 λd k=>?_;grind
   have f:jd ((a,u)::b) a=b:=(by unfold jd;rw[n0,az ac,mL];grind);rw[i,f]
  rw[az h];have f:jd ((a,u)::b) c=(a,u)::jd b c:=(by simp_all [n0,au,jd]);rw[f];refine((PO e.2 ?_).cons _).trans (.swap _ _ _);grind
theorem km.put {α:Type} {L:bm (Z×X×α)} {l:bm (Z×α)} {c:X} (e:km L l c) (d:Z) (g:α):km (vi L d g c).1 (kB l d g) (bif (gb l d).isSome then c else c+1)/\(vi L d g c).2=(bif (gb l d).isSome then c else c+1):=by
 have i:(gb l d).isSome=br (d∈L.map (·.1)):=by
  by_cases h:d∈L.map (·.1)
  ·obtain⟨a,f,rfl⟩:=eZ.1 h;rw[e.mem f,aij h];rfl
  rw[aiO h];cases i:gb l d with
  |none=>rfl
  |some v=>exact absurd (e.keys.mem_iff.2 (eZ.2 ⟨_,Eu i,bn⟩)) h
 rw[i];unfold vi;have n:((L.map λa=>(a.1,a.2.2)).filter λa=>br (a.1≠d)).Perm (jd l d):=e.2.1.filter _;by_cases h:d∈L.map (·.1)
 ·rw[au h,aij h];refine⟨⟨Iz e.1,?_,?_,?_⟩,bn⟩
  ·have aq:((L.map λa=>if a.1=d then(d,a.2.1,g) else a).map λa=>(a.1,a.2.2))=(L.map λa=>(a.1,a.2.2)).map λa=>if a.1=d then(d,g) else a:=by
    simp only[oI];refine h7 λa _=>?_;grind
   show((L.map λa=>if a.1=d then(d,a.2.1,g) else a).map λa=>(a.1,a.2.2)).Perm _;rw[aq];refine(PO ?_ ?_).trans ((n.cons _).trans (Iy e.1).symm)
   ·rw[oI];exact e.nd
   grind
  ·have aq:((L.map λa=>if a.1=d then(d,a.2.1,g) else a).map λa=>a.2.1)=L.map λa=>a.2.1:=by
    grind [aiy,List.map_map]
   show((L.map λa=>if a.1=d then(d,a.2.1,g) else a).map λa=>a.2.1).Nodup;rw[aq];exact e.2.2.1
  intro a f;obtain⟨p,o,rfl⟩:=eZ.1 f;have:=e.2.2.2 p o;grind
 rw[az h,aiO h];refine⟨⟨Iz e.1,?_,?_,?_⟩,bn⟩
 ·have j:jd l d=l:=by
   unfold jd;rw[mL];intro a f;simp only[aiF];rintro rfl;exact h (e.keys.mem_iff.2 (eZ.2 ⟨a,f,bn⟩))
  have:=Iy (k:=d) (v:=g) e.1;rw[j] at this;refine List.Perm.trans ?_ this.symm;show((L++[(d,c,g)]).map λa=>(a.1,a.2.2)).Perm _;rw[ji];exact List.perm_append_comm.trans ((e.2.1).cons _)
 ·show((L++[(d,c,g)]).map λa=>a.2.1).Nodup;rw[ji,jO];refine⟨e.2.2.1,ac,λq m b s r=>?_⟩;obtain⟨a,f,rfl⟩:=eZ.1 m;have:=e.2.2.2 a f;grind
 intro a f;rcases h9.1 f with f|f
 ·have:=e.2.2.2 a f;grind
 grind
theorem MO {α:Type} {h:Z}:∀{b:bm α} (a:α->Z) {f:X} {d:α},(b.map a).Nodup->b[f]?=Y d->a d=h->b.eraseIdx f=b.filter λi=>br (a i≠h)
 |[],a,f,d,_,c,_=>by grind
 |x::b,a,0,d,e,c,g=>by simp only[qD,eS] at c;subst c;simp only[h8,kk] at e;rw[List.eraseIdx_cons_zero,n0,az (by grind),mL.2];grind
 |x::b,a,f+1,d,e,c,g=>by simp only[v9] at c;simp only[h8,kk] at e;rw[List.eraseIdx_cons_succ,n0,au,MO a e.2 c g];grind
def km.del {α:Type} {L:bm (Z×X×α)} {l:bm (Z×α)} {c:X} (b:km L l c) (d:Z):km (L.filter λa=>br (a.1≠d)) (jd l d) c:=by
 refine⟨Xe b.1,?_,?_,λa e=>b.2.2.2 a (ht.1 e).1⟩
 ·have:=b.2.1.filter (λa=>br (a.1≠d));rw[List.filter_map] at this;exact this
 exact b.2.2.1.sublist (tN.map _)
def aS.Oo (a:hk M w t b l c e3 L):aS M w (.mp t) [.map (Y b)] (Y (l,c)) [b]:=⟨b,e3,L,bn,bn,a.o4,nI.2 a.h,a.n,a.e⟩
def aS.On (a:aS M w (.mp t) g (Y (l,c)) k):∃b e3 L,g=[.map (Y b)]/\k=[b]/\hk M w t b l c e3 L:=by obtain⟨b,e3,L,d,e,f,h,i,j⟩:=a;exact⟨b,e3,L,d,e,f,nI.1 h,i,j⟩
def aS.aew {a:eD} (d:aS M w (.fw a t) g (Y (l,c)) k):∃b e3 L,g=[.map (Y b)]/\k=[]/\M a b/\hk M w t b l c e3 L:=by obtain⟨b,e3,L,e,f,h,n,i,j,m⟩:=d;exact⟨b,e3,L,e,f,n,h,nI.1 i,j,m⟩
def gP (w:bC) (b:X) (e3:bU cm) (c:X):World:={w with heap:=w.heap.setIfInBounds b (.map e3 c)}
theorem oy (a:w.heap[b]?=Y (.map e3 c)):(gP w b o i).heap[b]?=Y (.map o i):=by grind [Array.getElem?_eq_some_iff,gP]
theorem Ba {a:X} (c:i≠b):(gP w b o a).heap[i]?=w.heap[i]?:=by grind [Array.getElem?_setIfInBounds_ne,gP]
theorem QL:(gP w b o i).heap.size=w.heap.size:=by simp[gP]
theorem acY {es':bU cm} {c':X} (d:w.heap[b]?=Y (.map e3 c)) (a:Addr):(gP w b es' c').cell? a=w.cell? a:=by grind [amh,Ba,oy,ajq]
theorem acZ {es':bU cm} {c':X} (d:w.heap[b]?=Y (.map e3 c)) (a:Addr):(gP w b es' c').frozen? a=w.frozen? a:=by grind [ami,Ba,oy,akI]
def Fp {a:X} (c:i≠b):c8 w (gP w b o a) i:=.of_heap (Ba c)
theorem hk.update (f:hk M w t b l c e3 L) (I:P.underlying x=Y (.map a T)) (E:P.underlying a=Y (.int v)) (d:Z) {o:t.den} (ap:g.length=t.size) (ci:aS M w t g o []):∃u K,(ai3 x (.map (Y b)) (.int .i64 d) (cW t g)).run P w=.ok () (gP w b u (bif (gb l d).isSome then c else c+1))/\(∀{y:eD->X->Prop},(∀r d,M r d->y r d/\d≠b)->hk y (gP w b u (bif (gb l d).isSome then c else c+1)) t b (kB l d o) (bif (gb l d).isSome then c else c+1) u K)/\kL w (gP w b u (bif (gb l d).isSome then c else c+1)) b:=by
 have bl:∀{y:eD->X->Prop} {u:bU cm} {N:X},(∀r d,M r d->y r d/\d≠b)->∀{g:ah8} {o:t.den},aS M w t g o []->aS y (gP w b u N) t g o []:=
  λz _ _ ce=>ce.mono (λr d C=>⟨(z r d C).1,Fp (z r d C).2⟩) ac
 obtain⟨q,cv⟩:=f.o4.put d o;rcases f.find (P:=P) E d with⟨D,G,H⟩|⟨B,dl,ds,co,D,G,H,ad,cs,am⟩
 ·rw[D] at q|-;have C:d∉L.map (·.1):=λc1=>(by grind);simp only[als,bP] at q|-;have aq:(vi L d o c).1=L++[(d,c,o)]:=(by simp_all [az,vi]);rw[aq] at q;refine⟨e3.push ⟨.int .i64 d,cW t g,c⟩,L++[(d,c,o)],?_,λz=>⟨q,oy f.h,by simp[f.n],λm k p=>?_⟩,?_⟩
  ·simp only[ai3,bY,b8 I,b1,run_getObj_map f.h,ow E,H];exact qi f.h
  ·rcases cQ m L.length with F|F
   ·rw[qC F] at p;obtain⟨U,Q,R,S⟩:=f.e m k p;grind
   rw[pu F] at p;have a0:m-L.length=0:=(by grind);rw[a0] at p;simp only[qD,eS] at p;subst p;exact⟨g,ap,by rw[Array.getElem?_push,au (by rw[f.n];omega)],bl z ci⟩
  intro V O A;rw[nI.2 f.h] at A;cases A;refine⟨_,_,nI.2 (oy f.h),Nat.le_succ _,λm s av an=>?_⟩;grind
 rw[D] at q|-;have C:d∈L.map (·.1):=eZ.2 ⟨_,i6 G,bn⟩;simp only[akJ,bG] at q|-;have aq:(vi L d o c).1=L.map λk=>if k.1=d then(d,k.2.1,o) else k:=by simp_all [au,vi]
 rw[aq] at q;have c2:∀(m:X) (k:Z×X×t.den),L[m]?=Y k->k.1=d->m=B:=λm k p s=>(by have bs:=f.o4.nd;have a3:m<(L.map (·.1)).length:=(by grind);have:=akK a3 bs (i:=m) (j:=B);grind);refine⟨e3.modify B λs=>{s with key:=.int .i64 d,val:=cW t g},L.map λk=>if k.1=d then(d,k.2.1,o) else k,?_,λz=>⟨q,oy f.h,by simp[f.n],λm k p=>?_⟩,?_⟩
 ·have a4:(ajJ (((e3[B]?).map (·.key)).getD (.int .i64 d)) (.int .i64 d)).run P w=.ok (.int .i64 d) w:=by
   rw[ad];simp[ajJ,alu]
  simp only[ai3,bY,b8 I,b1,run_getObj_map f.h,ow E,am,a4];exact qi f.h
 ·rw[jh] at p;obtain⟨J,bx,rfl⟩:=fC.1 p;by_cases s:J.1=d
  ·grind
  rw[az s];obtain⟨U,Q,R,S⟩:=f.e m J bx;grind
 intro V O A;rw[nI.2 f.h] at A;cases A;refine⟨_,_,nI.2 (oy f.h),bc _,λm s av an=>?_⟩;grind
theorem hk.delete (d:hk M w t b l c e3 L) (H:P.underlying x=Y (.map a T)) (u:P.underlying a=Y (.int v)) (f:Z) (av:bF) (O:bF):∃k N,(alv #[x,O] av #[.map (Y b),.int .i64 f]).run P w=.ok (.tuple #[]) (gP w b k c)/\(∀{p:eD->X->Prop},(∀g f,M g f->p g f/\f≠b)->hk p (gP w b k c) t b (jd l f) c k N)/\kL w (gP w b k c) b:=by
 have a4:∀{p:eD->X->Prop} {k:bU cm} {Q:X},(∀g f,M g f->p g f/\f≠b)->∀{C:ah8} {K:t.den},aS M w t C K []->aS p (gP w b k Q) t C K []:=
  λr _ _ ap=>ap.mono (λg f J=>⟨(r g f J).1,Fp (r g f J).2⟩) ac
 rcases d.find (P:=P) u f with⟨V,s,F⟩|⟨o,bs,bx,a0,V,s,F,G,a3,ad⟩
 ·have aq:jd l f=l:=by
   unfold jd;rw[mL];intro j bl;simp only[aiF];grind [N3]
  refine⟨e3,L,?_,λr=>⟨by rw[aq];exact d.o4,oy d.h,d.n,λi j m=>?_⟩,?_⟩
  ·simp only[alv,bY,b8 H,b1,run_getObj_map d.h,ow u,F,alw,qD,v9];rw[qi d.h];rfl
  ·obtain⟨D,z,A,B⟩:=d.e i j m;grind
  intro U R q;rw[nI.2 d.h] at q;cases q;exact⟨_,_,nI.2 (oy d.h),bc _,λi E I _=>⟨i,E,I,bn,bn⟩⟩
 have S:L.eraseIdx o=L.filter λj=>br (j.1≠f):=MO (·.1) d.o4.nd s bn;refine⟨e3.eraseIdxIfInBounds o,L.eraseIdx o,?_,λr=>⟨by rw[S];exact d.o4.del f,oy d.h,?_,λi j m=>?_⟩,?_⟩
 ·simp only[alv,bY,b8 H,b1,run_getObj_map d.h,ow u,ad,alw,qD,v9];rw[qi d.h];rfl
 ·have y:o<e3.size:=(rT.1 G).1;have am:o<L.length:=(hH.1 s).1;rw[amo,ajr y,Array.size_eraseIdx,List.length_eraseIdx,au am,d.n]
 ·have y:o<e3.size:=(rT.1 G).1;rw[List.getElem?_eraseIdx] at m;rw[amo,ajr y];split at m
  ·rename_i an;obtain⟨D,z,A,B⟩:=d.e i j m;grind
  rename_i an;obtain⟨D,z,A,B⟩:=d.e (i+1) j m;grind
 intro U R q;rw[nI.2 d.h] at q;cases q;refine⟨_,_,nI.2 (oy d.h),bc _,λi E I _=>?_⟩;grind
end
end
section
section
variable {E:fA} {C:eY} {st:aO} {a:Act} {w:bC} {I:X->Prop} {rt:X->ah8} {fp:X->aie} {o:bR} {Q:ak->bm (X×aG)->Prop}
def kZ (tt:bm (bF×ah)) (b:bF):bv ah:=match ar tt b with|some (.mp a)=>Y a|some (.fw _ a)=>Y a|_=>bo
theorem kZ.ok {c:bF} {f:ah} (d:kZ E.tt c=Y f):∃a b,E.P.underlying c=Y (.map a b)/\E.P.underlying a=Y (.int .i64)/\fi E.P f b:=by
 unfold kZ at d;split at d
 ·rename_i k e;cases d;obtain⟨j,a,b,_,_,_,_,g,h,i⟩:=E.ok c _ e;grind
 ·rename_i l k e;cases d;obtain⟨j,a,b,_,_,_,_,g,h,i⟩:=E.ok c _ e;grind
 grind
def xL (tt:bm (bF×ah)) (d:bm (X×ah)) (e:bm (X×aG)) (a:X) (c:bF):h3:=
 match kZ tt c,ar d a,ar e a with
 |some f,Y (.mp b),bo=>bif a7 f b then .e4 (.ref a []) [(a,⟨.mp b,Y ([],0)⟩)] else .bad
 |_,_,_=>.bad
theorem XC (f:cN C st a.tmps w I rt fp) (k:o.op=.makeMap x bo) (c:(xL E.tt l st.h b x).K Q):Yields E C st a w I rt fp o Q:=by
 unfold xL at c;split at c
 case h_2=>exact c.elim
 rename_i m d p q g;cases e:a7 m d with
 |false=>rw[e] at c;exact c.elim
 |true=>
 rw[e] at c;have i:(w.alloc (.map #[] 0)).heap[w.heap.size]?=Y (.map #[] 0):=(by show(w.heap.push _)[w.heap.size]?=_;grind);refine⟨.map (Y w.heap.size),w.alloc (.map #[] 0),I,λ_=>[.map (Y w.heap.size)],λ_=>[w.heap.size],.ref b [],[(b,⟨.mp d,Y ([],0)⟩)],?_,.alloc w _,λ_ c=>c,λ_ c=>.inl c,.one g (aS.Oo (hk.empty _ _ i)) ac (λn e=>?_),?_,c⟩
 ·simp[bN,k,Instr.makeMap,newObj,Sem.run]
 ·simp only[gp] at e;subst e;exact⟨bc _,ac,λc=>by have:=f.ib _ (.inl c);omega⟩
 have j:ar ([(b,(⟨.mp d,Y ([],0)⟩:aG))]++st.h) b=Y ⟨.mp d,Y ([],0)⟩:=(by rw[yC,ey,au bn]);refine .ref (t:=⟨.mp d,Y ([],0)⟩) (τ':=.mp d) (loc:=bo) (cs:=[.map (Y w.heap.size)]) j ?_;have:fh [(b,(⟨.mp d,Y ([],0)⟩:aG))] (λ_=>[ajK (Y w.heap.size)]) rt b=[.map (Y w.heap.size)]:=(by simp[fh,ey]);grind [aW.here]
def Es (a:ah) (c:bv (bm (Z×a.den)×X)) (d:a.den) (b:Z):bA->ak
 |true=>.fe [.val a ((mu c b).getD d),.val .bool (mu c b).isSome]
 |false=>.val a ((mu c b).getD d)
def va (tt:bm (bF×ah)) (j:bm (X×aG)) (i:bF) (k c:ak) (f:bA):h3:=
 match kZ tt i,c with
 |some h,.val (.int .i64) c=>match k with
  |.val (.fw l a) b=>match l8 a with
   |some d=>bif a7 h a then .e4 (Es a b d c f) [] else .bad
   |none=>.bad
  |.ref id g=>match ar j id with
   |some e=>match fm e.1 g with
    |some (.mp a)=>match l8 a with
     |some d=>bif a7 h a then .part (bv (bm (Z×a.den)×X)) (λb=>eN e.1 e.2 g (.mp a) b) (λb=>(Es a b d c f,[])) else .bad
     |none=>.bad
    |_=>.bad
   |none=>.bad
  |_=>.bad
 |_,_=>.bad
theorem NX {k:bF} (r:E.P.underlying k=Y (.map x T)) (f:E.P.underlying x=Y (.int .i64)) (M:fi E.P d T) {H:bO} {e:bA} (Q:o.op=.lookup k c H e) {n:Z} (O:a.eval H=.int .i64 n) {u:d.den} (S:l8 d=Y u) {m:bv (bm (Z×d.den)×X)} (g:(m=bo/\a.eval c=.map bo)\/∃l s p z y,m=Y (s,p)/\a.eval c=.map (Y l)/\hk (bb I C.B) w d l s p z y):∃t,(bN a.eval o).run E.P w=.ok (.value t) w/\∀A:bm (X×aG),cP (bb I C.B) w A rt fp (Es d m u n e) t:=by
 obtain⟨G,v,aw,V,ad,a3⟩:=vS M S;have F:(aix T).run E.P w=.ok v w:=(by simp[aix,aiM,aw,V]);have U:∃i,aS (bb I C.B) w d i ((mu m n).getD u) []/\(akL k (a.eval c) (.int .i64 n) e).run E.P w=.ok (if e then .tuple #[cW d i,.bool (mu m n).isSome] else cW d i) w:=by
  rcases g with⟨rfl,g⟩|⟨l,s,p,z,y,rfl,g,q⟩
  ·refine⟨v.cells.toList,by grind [mu],?_⟩;rw[g];have N:(aj9 x (.int .i64 n) []).run E.P w=.ok bo w:=JO f bn;simp only[akL,bY,b8 r,b1,cx,ow f,N,F];rw[<-ad];cases e<;>rfl
  rw[g];rcases q.find (P:=E.P) f n with⟨b,_,K⟩|⟨a0,a4,bl,J,b,_,an,ap,av,L⟩
  ·refine⟨v.cells.toList,by grind [mu],?_⟩;simp only[akL,bY,b8 r,b1,cx,run_getObj_map q.h,ow f,K,F];grind [als,mu]
  refine⟨J,by grind [mu],?_⟩;simp only[akL,bY,b8 r,b1,cx,run_getObj_map q.h,ow f,L];grind [akJ,mu]
 obtain⟨i,D,R⟩:=U;refine⟨_,by simp only[bN,Q,O,bY,R];rfl,λA=>?_⟩;cases e with
 |false=>exact .val D
 |true=>
  refine .fe ac (λG am t b j=>?_)
  match G with
  |0=>simp at b j;subst b;subst j;exact .val D
  |1=>simp at b j;subst b;subst j;exact .bool _
  |n+2=>grind
theorem aS.IJ {b:bv (bm (Z×d.den)×X)} (f:aS e w (.mp d) g b k):(b=bo/\g=[.map bo]/\k=[])\/∃a h c j i,b=Y (h,c)/\g=[.map (Y a)]/\k=[a]/\hk e w d a h c j i:=by
 cases b with
 |none=>exact .inl ⟨bn,f.2,f.1⟩
 |some l=>
  obtain⟨h,c⟩:=l;obtain⟨a,j,i,m,n,o⟩:=f.On;grind
theorem aS.RB {l:eD} {a:bv (bm (Z×d.den)×X)} (j:aS e w (.fw l d) g a k):(a=bo/\g=[.map bo])\/∃b f c i h,a=Y (f,c)/\g=[.map (Y b)]/\hk e w d b f c i h:=by
 cases a with
 |none=>exact .inl ⟨bn,j.2⟩
 |some m=>
  obtain⟨f,c⟩:=m;obtain⟨b,i,h,n,_,_,o⟩:=j.aew;grind
theorem W8 (s:cN C st a.tmps w I rt fp) {j:bO} {J:bA} (F:o.op=.lookup x c j J) (b:(va E.tt st.h x (aT st.g c) (aT st.g j) J).K Q):Yields E C st a w I rt fp o Q:=by
 have f:=s.aT c;have t:=s.aT j;unfold va at b;split at b
 case h_2=>exact b.elim
 rename_i O bx R P;obtain⟨a0,a3,L,M,N⟩:=kZ.ok R;rw[P] at t;generalize D:a.eval j=bs at t;cases t with|val ad=>
 obtain⟨_,rfl⟩:=ad;split at b
 ·rename_i av B y r;split at b
  case h_2=>exact b.elim
  rename_i ap u;cases e:a7 O B with
  |false=>rw[e] at b;exact b.elim
  |true=>
  rw[e] at b;rw[r] at f;generalize i:a.eval c=an at f;cases f with|val V=>
  obtain⟨am,z,A⟩:=NX (rt:=rt) (fp:=fp) (I:=I) (C:=C) (E:=E) (w:=w) (a:=a) (m:=y) L M (N.lay e) F D u (by
   rcases V.RB with⟨aq,d⟩|⟨l,v,n,q,k,aq,d,p⟩
   ·exact .inl ⟨aq,by rw[i,d];rfl⟩
   exact .inr ⟨l,v,n,q,k,aq,by rw[i,d];rfl,p⟩)
  exact .pure z (A _) b
 ·rename_i id ce r;split at b
  case h_2=>exact b.elim
  rename_i ci G;split at b
  case h_2=>exact b.elim
  rename_i B bl;split at b
  case h_2=>exact b.elim
  rename_i ap u;cases e:a7 O B with
  |false=>rw[e] at b;exact b.elim
  |true=>
  rw[e] at b;obtain⟨y,S,b⟩:=b;rw[r] at f;generalize i:a.eval c=an at f;cases f with|ref H T=>
  rw[G] at H;cases H;obtain⟨rfl,a4,U,_⟩:=s.kW G S T;obtain⟨am,z,A⟩:=NX (rt:=rt) (fp:=fp) (I:=I) (C:=C) (E:=E) (w:=w) (a:=a) (m:=y) L M (N.lay e) F D u (by
   rcases U.IJ with⟨aq,d,_⟩|⟨l,v,n,q,k,aq,d,_,p⟩
   ·exact .inl ⟨aq,by rw[i,d];rfl⟩
   exact .inr ⟨l,v,n,q,k,aq,by rw[i,d];rfl,p⟩)
  exact .pure z (A _) b
 exact b.elim
def vf (tt:bm (bF×ah)) (f:bm (X×aG)) (e:bF) (g:ak):h3:=
 match kZ tt e with
 |none=>.bad
 |some _=>match g with
  |.val (.fw _ b) a=>.e4 (.val (.int .i64) (xI (α:=b.den) a)) []
  |.ref id d=>match ar f id with
   |some c=>match fm c.1 d with
    |some (.mp b)=>.part (bv (bm (Z×b.den)×X)) (λa=>eN c.1 c.2 d (.mp b) a) (λa=>(.val (.int .i64) (xI a),[]))
    |_=>.bad
   |none=>.bad
  |_=>.bad
def Ok {q:bF} (l:E.P.underlying x=Y (.map T q)) (p:o.op=.call {callee:=.builtin .len,args:=#[c],argTypes:=#[x]}) {m:bv (bm (Z×d.den)×X)} (b:(m=bo/\a.eval c=.map bo)\/∃f e g i k,m=Y (e,g)/\a.eval c=.map (Y f)/\hk (bb I C.B) w d f e g i k):(bN a.eval o).run E.P w=.ok (.value (.int .i64 (xI m))) w:=by
 rcases b with⟨rfl,b⟩|⟨f,e,g,i,k,rfl,b,j⟩
 ·simp[bN,p,aiW,invoke,ajc,b,alm,b8 l,goInt,xI]
 have r:i.size=e.length:=(by rw[j.n,j.o4.len]);simp only[bN,p,aiW,invoke,ajc,bY,cx,b1,akM,h8,ajs,b,alm,alw,qD,b8 l,run_getObj_map j.h,goInt,xI,r]
theorem XE (s:cN C st a.tmps w I rt fp) (t:o.op=.call {callee:=.builtin .len,args:=#[c],argTypes:=#[x]}) (b:(vf E.tt st.h x (aT st.g c)).K Q):Yields E C st a w I rt fp o Q:=by
 have e:=s.aT c;unfold vf at b;split at b
 ·exact b.elim
 rename_i S z;obtain⟨J,L,y,P,R⟩:=kZ.ok z;generalize f:a.eval c=T at e;split at b
 ·rename_i H G r p;rw[p] at e;cases e with|val F=>
  refine .pure (Ok (I:=I) (C:=C) (m:=r) y t ?_) (.int _ _) b;rcases F.RB with⟨aq,d⟩|⟨j,q,k,n,i,aq,d,l⟩
  ·exact .inl ⟨aq,by rw[f,d];rfl⟩
  exact .inr ⟨j,q,k,n,i,aq,by rw[f,d];rfl,l⟩
 ·rename_i id O p;split at b
  case h_2=>exact b.elim
  rename_i U u;split at b
  case h_2=>exact b.elim
  rename_i G N;obtain⟨r,A,b⟩:=b;rw[p] at e;cases e with|ref v B=>
  rw[u] at v;cases v;obtain⟨rfl,M,D,_⟩:=s.kW u A B;refine .pure (Ok (I:=I) (C:=C) (m:=r) y t ?_) (.int _ _) b;rcases D.IJ with⟨aq,d,_⟩|⟨j,q,k,n,i,aq,d,_,l⟩
  ·exact .inl ⟨aq,by rw[f,d];rfl⟩
  exact .inr ⟨j,q,k,n,i,aq,by rw[f,d];rfl,l⟩
 exact b.elim
end
end
section
section
variable {E:fA} {C:eY} {st:aO} {a:Act} {w:bC} {I:X->Prop} {rt:X->ah8} {fp:X->aie} {o:bR} {Q:ak->bm (X×aG)->Prop}
def E0 (b c d:ak):h3:=
 match b with
 |.val .bool b=>.part bA (λa=>b=a) (λa=>(match a with|true=>c|false=>d,[]))
 |_=>.bad
theorem abq (e:cN C st a.tmps w I rt fp) {d:bO} (m:o.op=.pick c h d) (b:(E0 (aT st.g c) (aT st.g h) (aT st.g d)).K Q):Yields E C st a w I rt fp o Q:=by
 have f:=e.aT c;unfold E0 at b;split at b
 case h_2=>exact b.elim
 rename_i i j;obtain⟨i,rfl,b⟩:=b;rw[j] at f;generalize n:a.eval c=l at f;cases f with|val k=>
 obtain⟨_,rfl⟩:=k;cases i
 ·exact .pure (v:=a.eval d) (by simp_all [bN,cW,asBool]) (e.aT d) b
 exact .pure (v:=a.eval h) (by simp_all [bN,cW,asBool]) (e.aT h) b
def Kl (e:UnOp) (c:ak):h3:=
 match e,c with
 |.neg,.val (.int a) c=>.part Z (λb=>a.wrap (0-c)=b) (λb=>(.val (.int a) b,[]))
 |.xor,.val (.int a) c=>.part Z (λb=>a.wrap (ck a.bits (if a.signed then-1 else a.max)^^^ck a.bits c).toNat=b) (λb=>(.val (.int a) b,[]))
 |.not,.val .bool d=>.e4 (.val .bool (!d)) []
 |_,_=>.bad
theorem ad3 (j:cN C st a.tmps w I rt fp) {i:UnOp} (p:o.op=.unOp i x c) (b:(Kl i (aT st.g c)).K Q):Yields E C st a w I rt fp o Q:=by
 have d:=j.aT c;unfold Kl at b;generalize q:a.eval c=m at d;split at b
 ·rename_i f k e;obtain⟨l,rfl,b⟩:=b;rw[e] at d;cases d with|val h=>
  obtain⟨_,rfl⟩:=h;exact .pure (v:=.int f _) (by simp_all [bN,cW,alx,Op.intArith]) (.int f _) b
 ·rename_i f k e;obtain⟨l,rfl,b⟩:=b;rw[e] at d;cases d with|val h=>
  obtain⟨_,rfl⟩:=h;exact .pure (v:=.int f _) (by simp_all [bN,cW,alx,Op.intBits]) (.int f _) b
 ·rename_i n e;rw[e] at d;cases d with|val h=>
  obtain⟨_,rfl⟩:=h;exact .pure (v:=.bool _) (by simp_all [bN,cW,alx]) (.bool _) b
 exact b.elim
def B1 (tt:bm (bF×ah)) (e d:bF) (a:ak):h3:=
 match ar tt e,ar tt d,a with
 |some (.int _),Y (.int c),.val (.int _) a=>.part Z (λb=>c.wrap a=b) (λb=>(.val (.int c) b,[]))
 |_,_,_=>.bad
theorem Ue (j:cN C st a.tmps w I rt fp) (m:o.op=.convert T x c) (b:(B1 E.tt T x (aT st.g c)).K Q):Yields E C st a w I rt fp o Q:=by
 have d:=j.aT c;unfold B1 at b;split at b
 case h_2=>exact b.elim
 rename_i p e q r h i f;obtain⟨u,rfl,b⟩:=b;generalize n:a.eval c=l at d;rw[f] at d;cases d with|val k=>
 obtain⟨_,rfl⟩:=k;obtain⟨_,_,_,_,_,s⟩:=E.ok T _ h;obtain⟨_,_,_,_,_,t⟩:=E.ok x _ i;exact .pure (v:=.int e _) (by simp_all [b8,bN,cW,convert,Conv.intToInt]) (.int e _) b
def qn (c:ByteArray) (a:Z):ah9:=if 0<=a then(c[a.toNat]?).map λb=>(b.toNat:Z) else bo
def En:ByteArray:=⟨#[0,1,2,2,3,3,3,3,4,4,4,4,4,4,4,4,5,5,5,5,5,5,5,5,5,5,5,5,5,5,5,5,6,6,6,6,6,6,6,6,6,6,6,6,6,6,6,6,6,6,6,6,6,6,6,6,6,6,6,6,6,6,6,6,7,7,7,7,7,7,7,7,7,7,7,7,7,7,7,7,7,7,7,7,7,7,7,7,7,7,7,7,7,7,7,7,7,7,7,7,7,7,7,7,7,7,7,7,7,7,7,7,7,7,7,7,7,7,7,7,7,7,7,7,7,7,7,7,8,8,8,8,8,8,8,8,8,8,8,8,8,8,8,8,8,8,8,8,8,8,8,8,8,8,8,8,8,8,8,8,8,8,8,8,8,8,8,8,8,8,8,8,8,8,8,8,8,8,8,8,8,8,8,8,8,8,8,8,8,8,8,8,8,8,8,8,8,8,8,8,8,8,8,8,8,8,8,8,8,8,8,8,8,8,8,8,8,8,8,8,8,8,8,8,8,8,8,8,8,8,8,8,8,8,8,8,8,8,8,8,8,8,8,8,8,8,8,8,8,8,8,8,8,8,8,8]⟩
def Ft (tt:bm (bF×ah)) (d:bF) (f e:ak):h3:=
 match ar tt d,f,e with
 |some .str,.dh (.string c),.val (.int _) b=>.part Z (λa=>qn c b=Y a) (λa=>(.val (.int .u8) a,[]))
 |some .str,.val .str c,.val (.int _) b=>.part Z (λa=>qn c b=Y a) (λa=>(.val (.int .u8) a,[]))
 |_,_,_=>.bad
theorem adt (y:cN C st a.tmps w I rt fp) (H:o.op=.index x h c) (l:(Ft E.tt x (aT st.g h) (aT st.g c)).K Q):Yields E C st a w I rt fp o Q:=by
 have j:=y.aT h;have i:=y.aT c;have u:∀(f:ByteArray) (k:cw) (e b:Z),ar E.tt x=Y .str->a.eval h=.string f->a.eval c=.int k e->qn f e=Y b->Q (.val (.int .u8) b) []->Yields E C st a w I rt fp o Q:=by
  intro f k e b m q p d n;obtain⟨_,_,_,_,_,z⟩:=E.ok x _ m;refine .pure (v:=.int .u8 b) ?_ (.int .u8 b) n;unfold qn at d;split at d
  case isFalse=>cases d
  rename_i F;obtain⟨D,G,rfl⟩:=fC.1 d;simp_all [b8,bN,Instr.index,ajo]
 unfold Ft at l;split at l
 ·rename_i f k e m q p;obtain⟨b,d,n⟩:=l;rw[q] at j;rw[p] at i;generalize s:a.eval h=A at j;generalize r:a.eval c=z at i;cases j;cases i with|val t=>
  obtain⟨_,rfl⟩:=t;exact u f k e b m s r d n
 ·rename_i f k e m q p;obtain⟨b,d,n⟩:=l;rw[q] at j;rw[p] at i;generalize s:a.eval h=A at j;generalize r:a.eval c=z at i;cases j with|val B=>
  obtain⟨_,rfl⟩:=B;cases i with|val t=>
  obtain⟨_,rfl⟩:=t;exact u f k e b m s r d n
 exact l.elim
def DR (d:ak) (c:X):h3:=
 match d with
 |.fe b=>match b[c]? with
  |some a=>.e4 a []
  |none=>.bad
 |_=>.bad
theorem Ve (j:cN C st a.tmps w I rt fp) (q:o.op=.extract c b) (d:(DR (aT st.g c) b).K Q):Yields E C st a w I rt fp o Q:=by
 have f:=j.aT c;unfold DR at d;generalize r:a.eval c=n at f;split at d
 case h_2=>exact d.elim
 rename_i s i;split at d
 case h_2=>exact d.elim
 rename_i h l;rw[i] at f;cases f with|fe p k=>
 rename_i e;have m:b<e.size:=(by grind);have:e[b]?=Y e[b]:=Bo m;exact .pure (v:=e[b]) (by simp_all [bN,Instr.extract]) (k b h _ l this) d
def xM (c:bA) (a:ak):bm ak->h3
 |[]=>.e4 a []
 |y::d=>match a,y with
  |.val (.int b) a,.val (.int e) y=>if b=e then(match c with|true=>xM c (.val (.int b) (if y>a then y else a)) d|false=>xM c (.val (.int b) (if y<a then y else a)) d) else .bad
  |_,_=>.bad
def EB (j:cN C st a.tmps w I rt fp) (m:bA):∀(e:bm bO) (i:ak) (f:Value),cP (bb I C.B) w st.h rt fp i f->(xM m i (e.map (aT st.g))).K Q->∃d c,((e.map a.eval).foldlM (match m with|true=>Builtin.max2|false=>Builtin.min2) f).run E.P w=.ok d w/\cP (bb I C.B) w st.h rt fp c d/\Q c []
 |[],i,f,k,b=>⟨f,i,bn,k,b⟩
 |y::e,i,f,k,b=>by
  have l:=j.aT y;simp only[h8,xM] at b;generalize p:a.eval y=A at l;split at b
  case h_2=>exact b.elim
  rename_i q x v z r;split at b
  case isFalse=>exact b.elim
  rename_i s;subst s;rw[r] at l;cases k with|val t=>cases l with|val u=>
  obtain⟨_,rfl⟩:=t;obtain⟨_,rfl⟩:=u;cases m
  ·obtain⟨d,c,aw,n,o⟩:=EB j bq e _ _ (.int q _) b;refine⟨d,c,?_,n,o⟩;simp only[h8,amp,p,bY];exact aw
  obtain⟨d,c,aw,n,o⟩:=EB j bp e _ _ (.int q _) b;refine⟨d,c,?_,n,o⟩;simp only[h8,amp,p,bY];exact aw
def H9:ak->bA
 |.val _ _|.dh _|.eB _ _=>bp
 |_=>bq
def g3 (tt:bm (bF×ah)) (i:bm (X×ah)) (d:bm (X×aG)) (b:bO->ak) (g:X) (h:Op):h3:=
 match h with
 |.move a=>.e4 (b a) []
 |.assign a=>bif H9 (b a) then .e4 (b a) [] else .bad
 |.pick f a n=>E0 (b f) (b a) (b n)
 |.alloc c=>ws tt i d g c
 |.box c a=>yT tt d g c (b a)
 |.build c l=>yS tt b c l.toList
 |.buildSlice c e l=>wE tt i d b g c e l.toList
 |.load c a=>u9 tt d c (b a)
 |.nilCheck a=>vj d (b a)
 |.binOp h c a n _=>match b a,b n with
  |.val .bool x,.val .bool y=>match ar tt c with
   |some .bool=>Gu h (.val .bool x) (.val .bool y)
   |_=>.bad
  |.val (.int k) v,.val (.int s) e=>lU h k v s e
  |_,_=>.bad
 |.unOp h _ a=>Kl h (b a)
 |.convert z g a=>B1 tt z g (b a)
 |.makeSlice c t f=>vc tt i d g c (b t) (b f)
 |.slice c a u r bo=>vE tt d c (b a) (u.map b) (r.map b)
 |.fieldAddr c a e=>uW tt d c (b a) e
 |.field c a e=>xk tt d c (b a) e
 |.indexAddr c a j=>u2 tt d c (b a) (b j)
 |.index c a j=>Ft tt c (b a) (b j)
 |.extract a e=>DR (b a) e
 |.call f=>match f.callee,f.args.toList,f.argTypes.toList with
  |.builtin .len,[a],[c]=>match gZ tt c with
   |some _=>u7 tt d c (b a)
   |none=>vf tt d c (b a)
  |.builtin .max,a::m,_=>xM bp (b a) (m.map b)
  |.builtin .min,a::m,_=>xM bq (b a) (m.map b)
  |_,_,_=>.bad
 |.makeMap c bo=>xL tt i d g c
 |.lookup c a k w=>va tt d c (b a) (b k) w
 |.makeFunc (.func p) q o=>bif q.isEmpty then .e4 (.eB p (o.toList.map b)) [] else .bad
 |_=>.bad
theorem U0 (f:cN C st a.tmps w I rt fp) (c:(g3 E.tt l st.h (aT st.g) b o.op).K Q):Yields E C st a w I rt fp o Q:=by
 unfold g3 at c;split at c
 ·rename_i d e;exact .pure (v:=a.eval d) (by simp[bN,e]) (f.aT d) c
 ·rename_i d e;cases z:H9 (aT st.g d) with
  |false=>rw[z] at c;exact c.elim
  |true=>rw[z] at c;exact .pure (v:=a.eval d) (by simp[bN,e]) (f.aT d) c
 ·grind [abq]
 ·grind [S4]
 ·grind [TC]
 ·grind [Tz]
 ·grind [TG]
 ·grind [W5]
 ·grind [XS]
 ·rename_i am k d r an e;split at c
  ·rename_i L M s t;split at c
   ·rename_i J;refine Lx f e (λ_ _ _ _=>?_) (by grind);exact(E.ok k _ J).choose_spec.2.2.2.2
   exact c.elim
  ·rename_i s t;refine Lx f e (λL M _ T=>?_) (by rw[s,t];exact c);grind
  exact c.elim
 ·grind [ad3]
 ·grind [Ue]
 ·grind [Xk]
 ·grind [ac9]
 ·grind [Vu]
 ·grind [Vw]
 ·grind [Wf]
 ·grind [adt]
 ·grind [Ve]
 ·rename_i F e;obtain⟨P,m,B⟩:=F;simp only at c;split at c
  ·rename_i d k aq R;have j:m=#[d]:=(by grind);have S:B=#[k]:=(by grind);grind [XE,WY]
  ·rename_i d i aq;have j:m=(d::i).toArray:=(by grind);obtain⟨q,D,aw,n,p⟩:=EB (E:=E) f bp i _ _ (f.aT d) c;refine .pure (v:=q) ?_ n p;simp only[bN,e,aiW,invoke,ajc,bY,cx,b1,j,Builtin.max_];simp_all
  ·rename_i d i aq;have j:m=(d::i).toArray:=(by grind);obtain⟨q,D,aw,n,p⟩:=EB (E:=E) f bq i _ _ (f.aT d) c;refine .pure (v:=q) ?_ n p;simp only[bN,e,aiW,invoke,ajc,bY,cx,b1,j,Builtin.min_];simp_all
  exact c.elim
 ·grind [XC]
 ·grind [W8]
 ·rename_i H u G e;cases A:u.isEmpty with
  |false=>rw[A] at c;exact c.elim
  |true=>
   rw[A] at c;obtain rfl:u=#[]:=(by grind);refine .pure (v:=.func (.func H) #[] (G.map a.eval)) (by simp[bN,e,Instr.makeFunc]) (.eB ac (λad d O x y=>?_)) c;rw[jh] at x;rw[Array.getElem?_map] at y;obtain⟨r,U,rfl⟩:=fC.1 x;obtain⟨N,V,rfl⟩:=fC.1 y;obtain rfl:r=N:=(by grind);exact f.aT r
 exact c.elim
end
end
def eQ (b:X) (a:aie):bA:=a.any λc=>bH c b
theorem ha:eQ b k=bp↔b∈k:=by grind [aka,ai0,amq,eQ]
def ak.fo (a:aie) (b:ak):bA:=b.ids.any λc=>eQ c a
def vD:bm aZ->bv (bm aZ)
 |.unst::a=>(vD a).map λb=>.unst::b
 |.fst::_=>Y [.snd]
 |.snd::_=>Y [.fst]
 |_=>bo
def rK:bm aZ->bm aZ->bv (bm aZ)
 |p,[]=>vD p
 |.idx _::p,.idx _::a=>rK p a
 |.deref::p,.deref::a=>rK p a
 |.unst::p,.unst::a=>rK p a
 |.fst::p,.fst::a=>rK p a
 |.snd::p,.snd::a=>rK p a
 |_,_=>bo
def Ic (a b:bm aZ):bA:=g8 a b||(rK a b).isSome
def QT:∀{p b:bm aZ},vD p=Y b->g8 p b=bp
 |.unst::p,b,a=>by obtain⟨d,c,rfl⟩:=fC.1 a;exact QT (p:=p) c
 |.fst::_,_,a=>by cases a;rfl
 |.snd::_,_,a=>by cases a;rfl
 |[],_,a=>by cases a
 |.idx _::_,_,a=>by cases a
 |.deref::_,_,a=>by cases a
def QS:∀{q p b:bm aZ},rK p q=Y b->g8 p (q++b)=bp
 |[],p,b,a=>by have c:vD p=Y b:=(by cases p<;>exact a);exact QT c
 |s::q,p,b,a=>by
  cases p with
  |nil=>cases s<;>cases a
  |cons d p=>cases s<;>cases d<;>first|(cases a;done)|exact QS (q:=q) (p:=p) a
theorem QU:∀{p e:bm aZ} {τ h:ah},fm τ p=Y h->vD p=Y e->∃(o:ah) (m:X),∀(i:bC) (c:Loc) (g:ah8),∃k,aW i τ c g e o (c.map λd=>(d.1,d.2+m)) k
 |.unst::p,e,τ,h,b,a=>by
  obtain⟨q,l,rfl⟩:=fC.1 a;cases τ with
  |st n=>exact QU (p:=p) (τ:=n) b l
  |_=>cases b
 |.fst::p,e,τ,h,b,a=>by
  cases a;cases τ with
  |pr f j=>exact⟨j,f.size,λi c g=>⟨_,aW.here⟩⟩
  |_=>cases b
 |.snd::p,e,τ,h,b,a=>by
  cases a;cases τ with
  |pr f j=>
   refine⟨f,0,λi c g=>⟨g.take f.size,?_⟩⟩;have:(c.map λd=>(d.1,d.2+0))=c:=(by simp_all);rw[this];exact aW.here
  |_=>cases b
 |[],_,_,_,_,a=>by cases a
 |.idx _::_,_,_,_,_,a=>by cases a
 |.deref::_,_,_,_,_,a=>by cases a
theorem x8 {n:bC}:∀{q p d:bm aZ} {e f:ah} {j:Loc} {i:ah8} {g:ah} {k:Loc} {h:ah8},fm e p=Y f->rK p q=Y d->aW n e j i q g k h->∃l,fm g l=Y f/\vD l=Y d
 |[],p,d,e,f,j,i,g,k,h,c,b,a=>by obtain⟨rfl,_,_⟩:=aW.gv.1 a;have o:vD p=Y d:=(by cases p<;>exact b);grind
 |s::q,p,d,e,f,j,i,g,k,h,c,b,a=>by
  cases p with
  |nil=>cases s<;>cases b
  |cons m p=>
   cases e<;>cases s<;>simp only[aW] at a<;>cases m<;>first|(cases b;done)|skip
   case osl.idx.idx=>obtain⟨_,_,_,_,_,_,_,_,_,a⟩:=a;exact x8 (q:=q) (p:=p) c b a
   case optr.deref.deref=>obtain⟨_,_,_,_,_,_,a⟩:=a;exact x8 (q:=q) (p:=p) c b a
   case st.unst.unst=>exact x8 (q:=q) (p:=p) c b a
   case pr.fst.fst=>exact x8 (q:=q) (p:=p) c b a
   case pr.snd.snd=>exact x8 (q:=q) (p:=p) c b a
def aW.split {u:bC}:∀{q j:bm aZ} {d k:ah} {g i:Loc} {f h:ah8},aW u d g f (q++j) k i h->∃e c b,aW u d g f q e c b/\aW u e c b j k i h
 |[],j,d,k,g,i,f,h,a=>⟨d,g,f,aW.here,a⟩
 |s::q,j,d,k,g,i,f,h,a=>by
  rw[nY] at a;cases d<;>cases s<;>simp only[aW] at a
  case osl.idx=>
   obtain⟨l,t,x,v,m,aq,n,o,w,a⟩:=a;obtain⟨e,c,b,p,r⟩:=aW.split (q:=q) a;exact⟨e,c,b,⟨l,t,x,v,m,aq,n,o,w,p⟩,r⟩
  case optr.deref=>
   obtain⟨l,t,m,aq,n,o,a⟩:=a;obtain⟨e,c,b,p,r⟩:=aW.split (q:=q) a;exact⟨e,c,b,⟨l,t,m,aq,n,o,p⟩,r⟩
  case st.unst=>exact aW.split (q:=q) a
  case pr.fst=>exact aW.split (q:=q) a
  case pr.snd=>exact aW.split (q:=q) a
theorem aW.upper {B:ah} {c A:bm aZ} (z:fm d c=Y B) (h:rK c n=Y A) (a:aW f d bo y n r (Y (b,i)) g) (x:∀(n:bm aZ) (r:ah) (k:Loc) (g:ah8),g8 c n=bp->aW f d bo y n r k g->aW m d bo y n r k g):∃o,aW m d bo y n r (Y (b,i)) o:=by
 obtain⟨F,q,s⟩:=x8 z h a;obtain⟨I,E,e⟩:=QU q s;obtain⟨C,t⟩:=e f (Y (b,i)) g;obtain⟨H,j,l,u,v⟩:=aW.split (x _ _ _ _ (QS h) (a.append t));have aq:=u.ty;rw[a.ty] at aq;obtain rfl:=gC aq;obtain⟨D,w⟩:=e m j l;obtain⟨_,p,_⟩:=v.lw w;cases j with
 |none=>cases p
 |some G=>
  grind
def k0 (c:bm (X×bm aZ)):ak->bA
 |.ref id []=>c.any λa=>bH a.1 id
 |.ref id b=>c.any λa=>bH a.1 id&&g8 a.2 b
 |.addr id b=>c.any λa=>bH a.1 id&&Ic a.2 b
 |.view id b _ _=>c.any λa=>bH a.1 id&&g8 a.2 b
 |_=>bq
def ka (c:aie) (b:bm (X×bm aZ)):ak->bA
 |.eB _ f=>f.all λa=>!(a.fo c)||k0 b a
 |.hz a=>k0 b a
 |.app id h _ _ g=>(g.all λe=>!(eQ e c))&&b.any λd=>bH d.1 id&&kS d.2 h
 |a=>k0 b a
def fc (b:aie) (c:bm (X×bm aZ)) (a:ak):ak:=bif a.fo b&&!(ka b c a) then .dead else a
def fG (b:aie) (c:bm (X×bm aZ)):ak->ak
 |.fe d=>.fe (d.map (fc b c))
 |a=>fc b c a
def kill (b:aie) (d:bm (X×bm aZ)) (c:bm (X×ak)):bm (X×ak):=c.map λa=>(a.1,fG b d a.2)
def del (a:aie) (b:bm (X×aG)):bm (X×aG):=b.filter λc=>!(eQ c.1 a)
theorem Ej (a:bm aZ):g8 [] a=bq:=by grind [g8,nD]
def xx (b:aie):bm (X×bm aZ):=b.map λa=>(a,[])
theorem p6 (c:aie) (e:bm (X×bm aZ)):∀(d:bm (X×ak)) (b:X),gt (kill c e d) b=fG c e (gt d b)
 |[],b=>by simp[kill,gt,ar,fG,fc,ak.fo,ak.ids]
 |(f,a)::d,b=>by
  show gt ((f,fG c e a)::kill c e d) b=_;rw[iQ,iQ];split
  ·rfl
  exact p6 c e d b
theorem mV (a:aie):∀(c:bm (X×aG)) (b:X),ar (del a c) b=if b∈a then bo else ar c b
 |[],b=>by simp[del,ar]
 |(d,t)::c,b=>by
  have f:=mV a c b;simp only[del] at f|-;rw[n0];cases e:eQ d a with
  |true=>
   have:d∈a:=ha.1 e;simp only[gQ,Bool.false_eq_true,if_false];grind [ey]
  |false=>
   have:d∉a:=λc=>(by grind [ha]);simp only[ma,cj];grind [ey]
theorem Kp (a:V.fo k=bq):∀id∈V.ids,id∉k:=λid c b=>by grind [amq,ha,ak.fo]
structure nk (C:eY) (st:aO) (w w':bC) (I I':X->Prop) (rt:X->ah8) (fp:X->aie) (S:aie) (NF:bm (X×bm aZ)) (new:bm (X×aG)) (rtn:X->ah8) (fpn:X->aie):Prop where
 size:w.heap.size<=w'.heap.size
 os:w'.os=w.os
 tape:w'.tape=w.tape
 output:w'.output=w.output
 heap:∀b,b<w.heap.size->(∀id∈S,∀t,ar st.h id=Y t->b∉fp id)->w'.heap[b]?=w.heap[b]?
 evo:∀b,b<w.heap.size->kL w w' b
 i:∀b,I b->I' b
 i2:∀b,I' b->I b\/(b<w'.heap.size/\(w.heap.size<=b\/∃id∈S,∃t,ar st.h id=Y t/\b∈fp id))
 tree:∀id t,ar new id=Y t->(id∈S\/ar st.h id=bo)/\aS (bb I' C.B) w' t.1 (rtn id) t.2 (fpn id)/\(fpn id).Nodup/\∀b∈fpn id,¬I' b/\b<w'.heap.size/\(w.heap.size<=b\/∃Nm∈S,∃t',ar st.h Nm=Y t'/\b∈fp Nm)
 dis:∀i j t u,ar new i=Y t->ar new j=Y u->i≠j->∀b∈fpn i,b∉fpn j
 keep:∀e∈NF,∀t,ar st.h e.1=Y t->∃t',ar new e.1=Y t'/\t'.1=t.1/\rtn e.1=rt e.1/\(∃aeY,fm t.1 e.2=Y aeY)/\∀(q:bm aZ) (RL:ah) (N1:Loc) (Mb:ah8),g8 e.2 q=bp->aW w t.1 bo (rt e.1) q RL N1 Mb->aW w' t.1 bo (rt e.1) q RL N1 Mb
 app:∀e∈NF,∀t,ar st.h e.1=Y t->∀(q:bm aZ) (τ:ah) (xs:bm τ.den) (loc:Loc) (ug:ah8) (f1:aie),kS e.2 q=bp->τ.kD=bp->aW w t.1 bo (rt e.1) q (.osl τ) loc ug->eN t.1 t.2 q (.osl τ) xs->aS (bb I C.B) w (.osl τ) ug xs f1->∃t',ar new e.1=Y t'/\eN t'.1 t'.2 q (.osl τ) xs/\∀b∈f1,b∈fpn e.1/\c8 w w' b
theorem cN.eC {w':bC} {I':X->Prop} {rtn:X->ah8} {fpn:X->aie} {S:aie} {keep:bm (X×bm aZ)} {new:bm (X×aG)} (e:cN U O z f j p q) (l:nk U O f w' j I' p q S keep new rtn fpn):cN U ⟨kill S keep O.g,new++del S O.h⟩ z w' I' (fh new rtn p) (fh new fpn q):=by
 have V:∀a0 a,bb j U.B a0 a->bb I' U.B a0 a/\c8 f w' a:=λa0 a b=>by
  refine⟨?_,.of_heap (l.heap a (e.ib a (mW b)) (λid _ c k fs=>e.notM k a fs a0 b))⟩;cases a0
  ·exact l.i a b
  exact b.imp (l.i a) id
 have co:∀id c,ar (new++del S O.h) id=Y c->(ar new id=Y c/\fh new rtn p id=rtn id/\fh new fpn q id=fpn id)\/(ar new id=bo/\id∉S/\ar O.h id=Y c/\fh new rtn p id=p id/\fh new fpn q id=q id):=λid c k=>by
  rw[kA,mV] at k;cases J:ar new id with
  |none=>
   rw[J] at k;simp only[Option.none_or] at k;split at k
   ·cases k
   rename_i D;exact .inr ⟨bn,D,k,by simp[fh,J],by simp[fh,J]⟩
  |some l=>grind [fh]
 have ds:∀id c,ar O.h id=Y c->id∉S->∀a∈q id,c8 f w' a:=λid c k D a b=>.of_heap (l.heap a ((e.tree id c k).2.2 a b).2.2.1 (λI av r H A=>
  e.dis id I c r k H (λd=>D (by grind)) a b A))
 have ex:∀id c,ar O.h id=Y c->id∉S->∀a∈q id,¬I' a:=λid c k D a b K=>by
  have u:=(e.tree id c k).2.2 a b;rcases l.i2 a K with K|⟨_,K|⟨I,av,r,H,A⟩⟩
  ·grind
  ·omega
  exact e.dis id I c r k H (λd=>D (by grind)) a b A
 refine{n:=e.n,i0:=λa b=>l.i a (e.i0 a b),i1:=?_,ib:=?_,tree:=?_,dis:=?_,tmp:=?_,frame:=?_,evo:=λa b=>(e.evo a b).trans (l.evo a (i9 b e.size)),size:=ez e.size l.size,os:=l.os.trans e.os,tape:=l.tape.trans e.tape,output:=l.output.trans e.output,pin:=e.pin}
 ·intro a b;rcases l.i2 a b with b|⟨_,b|⟨I,av,r,H,A⟩⟩
  ·exact e.i1 a b
  ·exact .inr (.inl (ez e.size b))
  exact .inr ((e.tree I r H).2.2 a A).2.2.2
 ·intro a b;rcases b with b|b
  ·rcases l.i2 a b with b|⟨b,_⟩
   ·exact i9 (e.ib a (.inl b)) l.size
   omega
  exact i9 (e.ib a (.inr b)) l.size
 ·intro id c k;rcases co id c k with⟨s,m,w⟩|⟨el,D,s,m,w⟩
  ·obtain⟨_,aw,y,C⟩:=l.tree id c s;rw[m,w];refine⟨aw,y,λa b=>?_⟩;obtain⟨a3,a4,ap⟩:=C a b;rcases ap with ap|⟨I,av,r,H,A⟩
   ·exact⟨a3,λem=>by have:=e.ib a (.inr em);omega,a4,.inl (ez e.size ap)⟩
   have u:=(e.tree I r H).2.2 a A;grind
  obtain⟨aw,y,C⟩:=e.tree id c s;rw[m,w];refine⟨aw.mono V (ds id c s D),y,λa b=>?_⟩;obtain⟨a3,a4,ap,aJ⟩:=C a b;exact⟨ex id c s D a b,a4,i9 ap l.size,aJ⟩
 ·intro o ad c M K fz d1 a b;rcases co o c K with⟨s,_,w⟩|⟨el,D,s,_,w⟩<;>rcases co ad M fz with⟨am,_,d7⟩|⟨go,Ei,am,_,d7⟩<;>rw[w] at b<;>rw[d7]
  ·exact l.dis o ad c M s am d1 a b
  ·intro A;rcases((l.tree o c s).2.2.2 a b).2.2 with u|⟨I,av,r,H,ci⟩
   ·have:=((e.tree ad M am).2.2 a A).2.2.1;omega
   exact e.dis ad I M r am H (λd=>Ei (by grind)) a A ci
  ·intro A;rcases((l.tree ad M am).2.2.2 a A).2.2 with u|⟨I,av,r,H,ci⟩
   ·have:=((e.tree o c s).2.2 a b).2.2.1;omega
   exact e.dis o I c r s H (λd=>D (by grind)) a b ci
  exact e.dis o ad c M s am d1 a b
 ·intro bl;show cP _ _ _ _ _ (gt (kill S keep O.g) bl) _;rw[p6];have x:=e.tmp bl;generalize gt O.g bl=v at x;generalize z.getD bl bW=P at x;suffices ek:∀(v:ak) (P:Value),cP (bb j U.B) f O.h p q v P->cP (bb I' U.B) w' (new++del S O.h) (fh new rtn p) (fh new fpn q) (fc S keep v) P by
   cases v with
   |fe f3=>
    cases x with|fe d2 J=>
    refine .fe (by grind) (λo T M s m=>?_);grind
   |_=>exact ek _ _ x
  clear x;have bx:∀(v:ak) (P:Value),cP (bb j U.B) f O.h p q v P->v.fo S=bq\/k0 keep v=bp->cP (bb I' U.B) w' (new++del S O.h) (fh new rtn p) (fh new fpn q) v P:=by
   intro v P x f1;cases d6:v.fo S with
   |false=>
    refine x.s9 V (λid cs c k=>?_);have D:=Kp d6 id cs;have f0:ar new id=bo:=by
     cases J:ar new id with
     |none=>rfl
     |some c2=>
      rcases(l.tree id c2 J).1 with u|u
      ·grind
      grind
    refine⟨by simp_all [kA,mV,az],by grind [fh],by grind [fh],(e.tree id c k).1,ds id c k D⟩
   |true=>
    have L:k0 keep v=bp:=f1.resolve_left (by grind);have bs:∀(id:X) (c:aG),ar O.h id=Y c->∀d∈keep,d.1=id->∃r,ar (new++del S O.h) id=Y r/\r.1=c.1/\fh new rtn p id=p id/\(∃gc,fm c.1 d.2=Y gc)/\
     ∀(u:bm aZ) (d9:ah) (d8:Loc) (ce:ah8),g8 d.2 u=bp->aW f c.1 bo (p id) u d9 d8 ce->aW w' c.1 bo (p id) u d9 d8 ce:=by
     intro id c k d E cs;subst cs;obtain⟨r,aw,y,C,an,R⟩:=l.keep d E _ k;grind [kA]
    have dl:∀(id:X) (u:bm aZ),(keep.any λd=>bH d.1 id&&g8 d.2 u)=bp->∃d∈keep,d.1=id/\g8 d.2 u=bp:=(by simp_all);cases v with
    |ref id Q=>
     cases Q with
     |nil=>
      obtain⟨d,E,m⟩:=pp.1 (show(keep.any λd=>bH d.1 id)=bp from L);have m:=fu m;cases x with|ref k F=>
      obtain⟨rfl,rfl,rfl⟩:=aW.gv.1 F;obtain⟨r,aw,y,C,_⟩:=bs id _ k d E m;rw[<-y];refine .ref (loc:=bo) aw ?_;grind [aW.here]
     |cons f8 Q=>
      obtain⟨d,E,m,w⟩:=dl id (f8::Q) L;cases x with|ref k F=>
      obtain⟨r,aw,y,C,an,R⟩:=bs id _ k d E m;have G:=R _ _ _ _ w F;rw[<-C,<-y] at G;exact .ref aw G
    |addr id Q=>
     obtain⟨d,E,m⟩:=pp.1 (show(keep.any λd=>bH d.1 id&&Ic d.2 Q)=bp from L);simp only[bk] at m;obtain⟨m,w⟩:=m;have m:=fu m;cases x with|addr k F=>
     obtain⟨r,aw,y,C,an,R⟩:=bs id _ k d E m;rcases Bq.1 w with w|w
     ·have G:=R _ _ _ _ w F;rw[<-C,<-y] at G;exact .addr aw G
     obtain⟨hc,N⟩:=FX.1 w;obtain⟨_,an⟩:=an;obtain⟨ce,G⟩:=aW.upper an N F R;rw[<-C,<-y] at G;exact .addr aw G
    |view id Q gs K=>
     obtain⟨d,E,m,w⟩:=dl id Q L;cases x with|l7=>(exact .l7 _ _)|view k F f4 f5 f6=>
     obtain⟨r,aw,y,C,an,R⟩:=bs id _ k d E m;have G:=R _ _ _ _ w F;rw[<-C,<-y] at G;exact .view aw G f4 f5 f6
    |_=>cases L
  intro v P x;unfold fc;cases d6:v.fo S with
  |false=>grind
  |true=>
   cases L:ka S keep v with
   |false=>simp only[ma,Bool.and_self,bG];exact .dead _
   |true=>
    simp only[gQ,Bool.and_false,bP];cases v with
    |eB ge f3=>
     cases x with|eB d2 J=>
     refine .eB d2 (λo T M s m=>bx T M (J o T M s m) ?_);have:=g0.1 L T (i6 s);grind
    |hz T=>
     cases x with|hz b fn cv fl=>
     exact .hz (V _ _ b).1 (by rw[((V _ _ b).2.1 0).1];exact fn) cv (bx T _ fl (.inr L))
    |app id u f9 hs c1=>
     cases x with|app k d5 F ft s gf m f2 gi fT=>
     have N:((c1.all λo=>!(eQ o S))&&keep.any λd=>bH d.1 id&&kS d.2 u)=bp:=L;rw[bk] at N;obtain⟨cv,N⟩:=N;have cv:∀o∈c1,o∉S:=λo K d3=>(by grind [ha,ajm]);obtain⟨d,E,N⟩:=pp.1 N;simp only[bk] at N;obtain⟨fp,d0⟩:=N;obtain rfl:=fu fp;obtain⟨r,aw,y,C⟩:=l.app d E _ k u f9 _ _ _ _ d0 d5 F ft s;obtain⟨hi,a3,a4,ap,_,f7⟩:=l.keep d E _ k;rw[aw] at a3;obtain rfl:=gC a3;have f0:∀o∈c1,ar new o=bo:=λo K=>by
      cases J:ar new o with
      |none=>rfl
      |some c2=>
       obtain⟨_,hr,gl⟩:=f2 o K;rcases(l.tree o c2 J).1 with u|u
       ·grind
       grind
     have d3:fh new rtn p d.1=p d.1:=(by grind [fh]);have d4:=f7 u _ _ _ (Hk d0) F;rw[<-a4,<-d3] at d4;refine .app (t:=r) (by grind [kA]) d5 d4 y (s.mono V (λa b=>(C a b).2)) (λa b=>by grind [fh]) (m.mono V (λa b=>?_)) (λo K=>?_) (λa b=>?_) fT
     ·grind
     ·simp_all [kA,mV,az]
     grind [fh]
    |_=>exact bx _ P x (.inr L)
 intro a b eq;rw[l.heap a (i9 b e.size)]
 ·exact e.frame a b eq
 intro id _ c k A;have:=((e.tree id c k).2.2 a A).2.2.2;grind
section
def kj (k:eD->X->Prop) (i:bC) (a:ah) (l:bv Addr) (d:bm a.den) (g:ev):Prop:=
 g.length=d.length/\(d=[]\/∃e h,l=Y ⟨e,h,bo⟩/\∀(c:X) (j:a.den) (f:aie),d[c]?=Y j->g[c]?=Y f->∃b,b.length=a.size/\fq i e (h+c*a.size) b/\aS k i a b j f)
theorem kj.a2 {h:eD} {a:bm d.den} (c:aS e f (.a2 h d) [.slice s b i] a []):b=a.length/\kj e f d s a (bJ a.length []):=by obtain⟨_,j,k,g,_,_,c⟩:=c;simp only[hN,aio,b9] at g;obtain⟨rfl,rfl,rfl⟩:=g;refine⟨bn,ac,c.imp id ?_⟩;grind
theorem kj.osl {l:bm d.den} (g:aS e f (.osl d) [.slice s i b] l k):i=l.length/\i<=b/\∃h,kj e f d s l h/\(∀j∈h.flatten,j∈k)/\(k.Nodup->h.flatten.Nodup)/\((s=bo/\b=0/\k=[])\/∃a c,s=Y ⟨a,c,bo⟩/\k=a::h.flatten/\iC f a c (c+b*d.size)):=by
 obtain⟨t,j,m,g⟩:=g;simp only[hN,aio,b9] at m;obtain⟨rfl,rfl,rfl⟩:=m;rcases g with⟨rfl,rfl,rfl,rfl⟩|⟨a,c,n,rfl,rfl,aw,p,q,r⟩
 ·exact⟨bn,bc _,[],⟨bn,.inl bn⟩,ac,ac,.inl ⟨bn,bn,bn⟩⟩
 refine⟨bn,p,n,⟨aw,.inr ⟨a,c,bn,r⟩⟩,λj o=>hW _ o,λg=>(kk.1 g).2,.inr ⟨a,c,bn,bn,q⟩⟩
theorem kj.cells {b:bm d.den} {q:ev} (j:kj e f d s b q) (v:0<d.size):∃n:ah8,n.length=b.length*d.size/\(∀i∈n,i.oneCell'=bp)/\(∀c,s=Y c->b≠[]->∀(k:X) i,n[k]?=Y i->f.cell? (c.add k)=Y i)/\∀(g:X) (o:d.den) (m:aie),b[g]?=Y o->q[g]?=Y m->aS e f d ((n.drop (g*d.size)).take d.size) o m:=by
 obtain⟨D,j⟩:=j;rcases j with rfl|⟨c,l,rfl,j⟩
 ·simp_all
 have C:∀a,a<b.length*d.size->∃i,f.cell? ⟨c,l+a,bo⟩=Y i/\i.oneCell'=bp:=by
  intro a B;have t:a/d.size<b.length:=(akN v).2 B;obtain⟨h,x,p,r⟩:=j (a/d.size) b[a/d.size] (q[a/d.size]'(by omega)) ac ac
  have E:=Nat.mod_lt a v;have:h[a %d.size]?=Y (h[a %d.size]'(by omega)):=ba _
  refine⟨_,?_,r.one _ (cR (by omega:a %d.size<h.length))⟩;have:=p _ _ this;grind [akO,Nat.mul_comm]
 have A:∀a,((bI (b.length*d.size)).map λa=>(f.cell? ⟨c,l+a,bo⟩).getD bW)[a]?=if a<b.length*d.size then f.cell? ⟨c,l+a,bo⟩ else bo:=by grind
 refine⟨(bI (b.length*d.size)).map λa=>(f.cell? ⟨c,l+a,bo⟩).getD bW,ac,?_,?_,?_⟩
 ·grind
 ·grind [aja]
 intro g o m w z;obtain⟨h,x,p,r⟩:=j g o m w z;have t:g<b.length:=(hH.1 w).1;have:(((bI (b.length*d.size)).map λa=>(f.cell? ⟨c,l+a,bo⟩).getD bW).drop (g*d.size)).take d.size=h:=by
  apply hO;intro k;rcases cQ k d.size with u|u
  ·rw[r2 u,pw,A];have y:(g+1)*d.size<=b.length*d.size:=jj _ t;rw[mN,ng] at y;rw[au aa];have:h[k]?=Y (h[k]'(by omega)):=ba _
   rw[this,<-ajL];exact p _ _ this
  grind
 grind
section
variable {P:b0}
theorem Tf {w:bC} {ty:bF} {j:TypeInfo} (p:P.underlying x=Y (.slice a)) (A:fi P d a) (i:P.info? a=Y j) (a4:d.size<=1300) {ad yd:bv Addr} {n cap m c:X} {olds news:ah8} (M:olds.length=n*d.size) (ap:∀b,ad=Y b->∀(f:X) (g:Value),olds[f]?=Y g->w.cell? (b.add f)=Y g) (av:∀b,ad=Y b->b.spot=bo) (J:n<=cap) (an:ad=bo->cap=0) (t:news.length=m*d.size) (H:∀g∈news,g.oneCell'=bp) (C:∀b,yd=Y b->0<m->∀(f:X) (g:Value),news[f]?=Y g->w.cell? (b.add f)=Y g) (bl:yd=bo->m=0) (L:∀b,ad=Y b->iC w b.block b.off (b.off+cap*d.size)) (U:n+m<=hC):∃F o,(akb #[x,x] ty #[.slice ad n cap,.slice yd m c]).run P w=.ok F o/\((
   n+m<=cap/\F=.slice ad (n+m) cap/\((ad=bo/\o=w)\/∃b,ad=Y b/\o=w.setCells b.block (b.off+n*d.size) news))\/
   ∃(e:X) (v:ah6),cap<n+m/\n+m<=e/\F=.slice (Y ⟨w.heap.size,0,bo⟩) (n+m) e/\hj w o/\o.heap[w.heap.size]?=Y (.cells v a (0,0))/\o.heap.size=w.heap.size+1/\e*d.size<=v.size/\∀(f:X) (g:Value),(olds++news)[f]?=Y g->v[f]?=Y g):=by
 obtain⟨bs,_,h,_⟩:=A.info;have G:=h.info;rw[i] at G;cases G;have a3:=A.pos;by_cases D:n+m<=cap
 ·by_cases q:m=0
  ·subst q;obtain rfl:news=[]:=qA aa;have K:(amr d.size 0 (.slice yd 0 c)).run P w=.ok #[] w:=by
    cases yd with
    |none=>rfl
    |some b=>simp[amr,loadCells,loadCellsFrom]
   refine⟨.slice ad n cap,w,?_,.inl ⟨D,bn,?_⟩⟩
   ·cases ad with
    |none=>simp[akb,b8 p,ai2,aiM,i,ams,h.size,J,K]
    |some b=>simp[akb,b8 p,ai2,aiM,i,ams,h.size,J,K,storeCells]
   cases ad with
   |none=>grind
   |some b=>exact .inr ⟨b,bn,bn⟩
  cases ad with
  |none=>grind
  |some b=>
   cases yd with
   |none=>grind
   |some k=>
    obtain⟨N,O,Q⟩:=b;obtain rfl:Q=none:=av _ rfl;have V:(n+m)*d.size<=cap*d.size:=jj _ D;rw[mN] at V;have r:=run_append_room_cells (P:=P) w x ty a j p i N O n cap k m c news (by rw[h.size];exact t) (C k bn aa) H D (λf T=>(L _ rfl _ (by grind) (by rw[h.size];grind)).1) (λf T=>(L _ rfl _ (by grind) (by rw[h.size];grind)).2);rw[h.size] at r;grind
 obtain⟨l,a0,u⟩:=A.H1;have u:=u j i;have q:0<m:=aa;cases yd with
 |none=>grind
 |some k=>
  have I:(n+m)*j.bytes<=140737488355328:=(by have H:(n+m)*j.bytes<=hC*31200:=mO U (by have:=h.bytes;omega);grind [hC]);have B:((n+m:X):Z)<=9223372036854775807:=(by grind [hC]);have z:∀(E:X),let e:=grownCap w (n+m) E a
   n+m<=e/\hj w (w.drew.alloc (.cells (olds.toArray++news.toArray++akc l.cells (e-(n+m))) a))/\
   (w.drew.alloc (.cells (olds.toArray++news.toArray++akc l.cells (e-(n+m))) a)).heap[w.heap.size]?=Y (.cells (olds.toArray++news.toArray++akc l.cells (e-(n+m))) a (0,0))/\
   e*d.size<=(olds.toArray++news.toArray++akc l.cells (e-(n+m))).size/\
   ∀(f:X) (g:Value),(olds++news)[f]?=Y g->(olds.toArray++news.toArray++akc l.cells (e-(n+m)))[f]?=Y g:=by
   intro E e;have S:n+m<=e:=grownCap_ge w (n+m) E a;refine⟨S,(hj.refl w).drew.trans (hj.alloc _ _),heap_alloc_new w.drew _,?_,?_⟩
   ·simp only[Array.size_append,tP,size_zeroCells,a0,M,t,<-mN];grind
   grind
  cases ad with
  |some b=>
   have r:=run_append_grow (P:=P) w x ty a j l p i u b n cap olds (by rw[h.size];exact M) (ap b bn) k m c news (by rw[h.size];exact t) (C k bn q) aa B (growslice_fits aa I);obtain⟨y,f2,s,f4,f5⟩:=z cap;exact⟨_,_,r,.inr ⟨_,_,aa,y,bn,f2,s,ac,f4,f5⟩⟩
  |none=>
   have R:=an bn;have am:n=0:=aa;subst R;subst am;obtain rfl:olds=[]:=qA aa;simp only[nh] at B I z;have r:=run_append_nil (P:=P) w x ty a j l p i u k m c news (by rw[h.size];exact t) (C k bn q) q B aa;obtain⟨y,f2,s,f4,f5⟩:=z 0;simp only[ir,Array.empty_append] at y f2 s f4 f5;refine⟨_,_,r,.inr ⟨_,_,aa,aa,by rw[nh],f2,s,ac,f4,f5⟩⟩
end
end
theorem x5 (b:X):∀(g:ah8) (d:X) (c:bC) (a:X),a≠b->(c.setCells b d g).heap[a]?=c.heap[a]?
 |[],_,_,_,_=>rfl
 |v::f,d,c,a,e=>by rw[akP,x5 b f _ _ a e];simp only[amt,Array.getElem?_modify];grind
theorem ts (b:X):∀(e:ah8) (c:X) (a:bC),(a.setCells b c e).heap.size=a.heap.size
 |[],_,_=>rfl
 |v::d,c,a=>by rw[akP,ts b d];simp
def pc (b:X):∀(d:ah8) (c:X) (a:bC),(a.setCells b c d).os=a.os/\(a.setCells b c d).tape=a.tape/\(a.setCells b c d).output=a.output
 |[],_,_=>⟨bn,bn,bn⟩
 |v::e,c,a=>by rw[akP];exact pc b e _ _
theorem JS (d:X) (e:ah8) (b:X) (f:bC) (g:∀c,c<e.length->(f.cell? ⟨d,b+c,bo⟩).isSome=bp) (a:X):((f.setCells d b e).cell? ⟨d,a,bo⟩).isSome=(f.cell? ⟨d,a,bo⟩).isSome:=by
 by_cases h:b<=a/\a<b+e.length
 ·obtain⟨c,rfl⟩:∃c,a=b+c:=⟨a-b,aa⟩;grind [akd]
 grind [akQ]
theorem Xl (b:bC) (c:Addr) (d:Value) (a:X):iS (b.setCell c d) a=iS b a:=by unfold iS amt;grind
def Ao (d:X):∀(f:ah8) (b:X) (c:bC) (a:X),iS (c.setCells d b f) a=iS c a
 |[],_,_,_=>rfl
 |v::e,b,c,a=>by rw[akP,Ao d e (b+1),Xl]
theorem rJ {vs:ah8} {o:X} {w:bC} (a:i≠b):c8 w (w.setCells b o vs) i:=.of_heap (x5 b vs o w i a)
theorem Ll {P:b0} {ty:bF} {el:TypeInfo} (c1:P.underlying x=Y (.slice a)) (ap:fi P d a) (d2:P.info? a=Y el) (d7:d.size<=1300) {R:bv Addr} {c:X} {q I:bm d.den} {t:ev} (U:aS e f (.osl d) [.slice s i b] q k) (V:kj e f d R I t) (bl:k.Nodup) (cs:∀h∈k,∀o,¬e o h) (gc:t.flatten.Nodup) (ds:∀h∈k,h∉t.flatten) (cv:∀o h,e o h->h<f.heap.size) (d0:∀h∈k,h<f.heap.size) (ek:∀h∈t.flatten,h<f.heap.size) (d4:q.length+I.length<=hC):∃an p f2,(akb #[x,x] ty #[.slice s i b,.slice R I.length c]).run P f=.ok an p/\aS e p (.osl d) [an] (q++I) f2/\aS e p (.osl d) [.slice s i b] q k/\f2.Nodup/\(∀h∈f2,h∈k\/h∈t.flatten\/(f.heap.size<=h/\h<p.heap.size))/\f.heap.size<=p.heap.size/\p.os=f.os/\p.tape=f.tape/\p.output=f.output/\(∀h,h<f.heap.size->h∉k->p.heap[h]?=f.heap[h]?)/\(∀o h,e o h->c8 f p h)/\(∀h∈t.flatten,c8 f p h)/\(∀h,h<f.heap.size->iS p h=iS f h):=by
 obtain⟨rfl,av,z,ce,f0,f1,d9⟩:=kj.osl U;have bs:=ap.pos;obtain⟨G,am,gl,fl,go⟩:=ce.cells bs;obtain⟨v,em,eq,ex,gf⟩:=V.cells bs;have a4:=ce.1;have f7:=V.1;obtain⟨an,p,T,dl⟩:=Tf (P:=P) (w:=f) (ty:=ty) c1 ap d2 d7 (ad:=s) (yd:=R) (n:=q.length) (cap:=b) (m:=I.length) (c:=c) (olds:=G) (news:=v) am (λh K l y A=>fl h K (by grind) l y A) (λh K=>by grind) av (λM=>by grind) em eq (λh K f8 l y A=>ex h K (by grind) l y A) (λM=>by rcases V.2 with rfl|⟨h,gi,E,_⟩;rfl;grind) (λh K=>by
   grind) d4
 have fT:(z++t).flatten=z.flatten++t.flatten:=ac;have f9:(z++t).flatten.Nodup:=(by grind);have S:∀(g:X) (F:d.den) (C:aie),(q++I)[g]?=Y F->(z++t)[g]?=Y C->aS e f d (((G++v).drop (g*d.size)).take d.size) F C/\∀h∈C,h∈z.flatten\/h∈t.flatten:=by
  intro g F C j L;rcases cQ g q.length with E|E
  ·rw[qC E] at j;rw[qC aa] at L;have u:(g+1)*d.size<=q.length*d.size:=jj _ E;rw[mN,ng] at u;rw[r1 aa,tQ (by grind)];grind [ajE,aiw]
  rw[pu E] at j;rw[pu aa,a4] at L;have u:q.length*d.size<=g*d.size:=jj _ E;rw[List.drop_append,qz aa,ir,am,show g*d.size-q.length*d.size=(g-q.length)*d.size by rw[Nat.sub_mul]];grind [ajE,aiw]
 rcases dl with⟨d6,rfl,d8⟩|⟨ci,co,f4,f3,rfl,D,d1,f5,fz,ft⟩
 ·rcases d8 with⟨rfl,rfl⟩|⟨h,rfl,rfl⟩
  ·have fs:b=0:=(by grind);obtain rfl:q=[]:=qA aa;obtain rfl:I=[]:=qA aa;exact⟨_,p,k,T,by grind,U,bl,λh K=>.inl K,bc _,bn,bn,bn,λ_ _ _=>rfl,λ_ _ _=>c8.refl _ _,λ_ _=>c8.refl _ _,λ_ _=>rfl⟩
  rcases d9 with⟨M,_⟩|⟨r,B,M,rfl,a0⟩
  ·cases M
  cases M;have fp:r∉z.flatten:=(kk.1 bl).1;have c2:r∉t.flatten:=ds r ac;have d5:(q.length+I.length)*d.size<=b*d.size:=jj _ d6;rw[mN] at d5;have bx:∀l,l<v.length->(f.cell? ⟨r,B+q.length*d.size+l,bo⟩).isSome=bp:=λl A=>(a0 _ aa aa).1;have J:∀o g,e o g->e o g/\c8 f (f.setCells r (B+q.length*d.size) v) g:=λo g j=>⟨j,rJ (λO=>cs r ac o (O▸j))⟩;have a3:iC (f.setCells r (B+q.length*d.size) v) r B (B+b*d.size):=λl u N=>(by rw[JS r v _ f bx,aly];exact a0 l u N);have fn:∀l y,(G++v)[l]?=Y y->(f.setCells r (B+q.length*d.size) v).cell? ⟨r,B+l,bo⟩=Y y:=by
   intro l y A;rcases cQ l G.length with E|E
   ·grind [aja,akQ,List.getElem?_append_left]
   rw[pu E] at A;obtain⟨H,rfl⟩:∃H,l=G.length+H:=⟨l-G.length,aa⟩;rw[r5] at A;have Q:H<v.length:=(hH.1 A).1;rw[am,<-ajL,akd r v _ f bx H Q];grind
  refine⟨_,_,r::(z++t).flatten,T,?_,?_,?_,?_,by rw[ts];omega,(pc _ _ _ _).1,(pc _ _ _ _).2.1,(pc _ _ _ _).2.2,?_,λo g j=>(J o g j).2,λg j=>rJ (λO=>c2 (by grind)),λg _=>Ao _ _ _ _ _⟩
  ·refine⟨Y ⟨r,B,bo⟩,b,ac,.inr ⟨r,B,z++t,bn,bn,by grind,by grind,a3,λg F C j L=>?_⟩⟩;obtain⟨u,N⟩:=S g F C j L;refine⟨_,u.len,λl y A=>?_,u.mono J (λH Q=>rJ (λO=>?_))⟩
   ·have d3:(G++v)[g*d.size+l]?=Y y:=by
     grind
    grind
   grind
  ·refine⟨Y ⟨r,B,bo⟩,b,bn,.inr ⟨r,B,z,bn,bn,a4,av,a3,λg F C j L=>?_⟩⟩;have f6:g<q.length:=(hH.1 j).1;obtain⟨u,N⟩:=S g F C (by grind) (by grind);refine⟨_,u.len,λl y A=>?_,u.mono J (λH Q=>rJ (λO=>?_))⟩
   ·have d3:(G++v)[g*d.size+l]?=Y y:=by
     grind
    grind
   grind
  ·grind
  ·grind
  grind [x5]
 have J:∀o g,e o g->e o g/\c8 f p g:=λo g j=>⟨j,.of_heap (D.heap g (cv o g j))⟩;have ge:∀l,p.cell? ⟨f.heap.size,l,bo⟩=co[l]?/\p.frozen? ⟨f.heap.size,l,bo⟩=bq:=λl=>(by simp[ajq,akI,d1]);refine⟨_,p,f.heap.size::(z++t).flatten,T,?_,U.mono J (λg j=>.of_heap (D.heap g (d0 g j))),?_,?_,D.size,D.os,D.tape,D.output,λg j _=>D.heap g j,λo g j=>(J o g j).2,λg j=>.of_heap (D.heap g (ek g j)),λg j=>(c8.of_heap (D.heap g j)).2⟩
 ·refine⟨Y ⟨f.heap.size,0,bo⟩,ci,ac,.inr ⟨f.heap.size,0,z++t,bn,bn,by grind,by grind,λl _ N=>?_,λg F C j L=>?_⟩⟩
  ·grind
  obtain⟨u,N⟩:=S g F C j L;refine⟨_,u.len,λl y A=>?_,u.mono J (λH Q=>.of_heap (D.heap H ?_))⟩
  ·grind
  grind
 ·grind
 grind
section
def fa.get:∀{p:bm aZ} {b:ah} {c j:b.den} {e:ah} {k:e.den},fa b c p e k j->∃d,eN b c p e d
 |[],b,c,_,_,_,a=>by obtain⟨rfl,_⟩:=fa.gv.1 a;exact⟨c,eN.gv.2 ⟨bn,bn⟩⟩
 |s::p,b,_,_,_,_,a=>by
  cases b<;>cases s<;>simp only[fa] at a
  case osl.idx=>obtain⟨g,f,i,a,_⟩:=a;obtain⟨d,h⟩:=fa.get (p:=p) a;exact⟨d,g,i,h⟩
  case optr.deref=>exact fa.get (p:=p) a
  case st.unst=>exact fa.get (p:=p) a
  case pr.fst=>obtain⟨f,a,_⟩:=a;exact fa.get (p:=p) a
  case pr.snd=>obtain⟨f,a,_⟩:=a;exact fa.get (p:=p) a
theorem fa.same:∀{p:bm aZ} {c:ah} {b:c.den} {d:ah} {f:d.den},eN c b p d f->fa c b p d f b
 |[],c,b,_,_,a=>by grind [fa.gv,eN.gv]
 |s::p,c,b,_,_,a=>by
  cases c<;>cases s<;>simp only[eN] at a
  case osl.idx i=>
   obtain⟨e,g,a⟩:=a;refine⟨e,e,g,fa.same (p:=p) a,?_⟩;grind [List.set_getElem_self,aiV]
  case optr.deref=>exact fa.same (p:=p) a
  case st.unst=>exact fa.same (p:=p) a
  case pr.fst=>exact⟨b.1,fa.same (p:=p) a,bn⟩
  case pr.snd=>exact⟨b.2,fa.same (p:=p) a,bn⟩
def Ey {a:N} {c:X->N}:fh [(b,P)] (λ_=>a) c b=a:=by simp[fh,ey]
section
variable {E:fA} {C:eY} {st:aO} {a:Act} {A:ah6} {w:bC} {I:X->Prop} {rt:X->ah8} {fp:X->aie} {o:bR}
theorem acW {c:X} (j:g.length=c) (f:iC w i b (b+c)) (d:X):rV w (w.setCells i b g) (Y (i,b)) c d:=by
 have k:∀a,a<g.length->(w.cell? ⟨i,b+a,bo⟩).isSome=bp:=λa h=>(f _ aa aa).1;refine⟨λa h=>akQ i g b w _ (λe _=>?_),λa=>aly _ _ _ _ _,λa=>?_,Ao _ _ _ _ _⟩
 ·grind
 by_cases e:d=i
 ·grind [JS]
 rw[((rJ (w:=w) (o:=b) (vs:=g) e).1 a).1]
theorem cN.ads (q:cN C st A w I rt fp) {id:X} (r:ar st.h id=Y P) {F:ah8} (N:aW w P.1 bo (rt id) n d (Y (b,i)) F) {x:d.den} {s:P.1.den} (D:fa P.1 P.2 n d x s) {p:aie} (E:aS (bb I C.B) w d y x p) (ft:p.Nodup) (a3:id∉k) (ex:∀a∈p,(∃G,∃U:d.den,d.kD=bp/\aS (bb I C.B) w d F U G/\a∈G)\/∃c∈k,∃f,ar st.h c=Y f/\a∈fp c):iC w b i (i+d.size)/\∃rtn fpn,cN C ⟨kill (id::k) [(id,n)] st.g,(id,⟨P.1,s⟩)::del (id::k) st.h⟩ A (w.setCells b i y) I rtn fpn/\rtn id=rt id/\aW (w.setCells b i y) P.1 bo (rt id) n d (Y (b,i)) y:=by
 obtain⟨cs,R,el⟩:=q.tree id P r;obtain⟨U,ci⟩:=D.get;obtain⟨f3,d6,ad,T,am,d8,an,J,d9,ap,av⟩:=z8 n (loc:=bo) cs (λ_ _ j=>by cases j) R (λ_ _ j=>by cases j) (q.notM r) ci;obtain⟨_,aq,V⟩:=N.lw am;subst aq;subst V;obtain⟨_,z⟩:=an b i bn;have em:b∈T:=(by grind);have bl:b∈fp id:=J.mem_iff.2 (by grind);have Q:=J.nodup_iff.1 R;rw[jO] at Q;obtain⟨fn,O,fs⟩:=Q;have eq:∀a∈p,a∈ad\/∃c∈k,∃f,ar st.h c=Y f/\a∈fp c:=λa e=>(by grind [aS.uniq]);have fz:∀c∈k,∀f,ar st.h c=Y f->∀a∈fp c,a∉fp id:=λc m f l a e K=>q.dis c id f P l r (λo=>a3 (o▸m)) a e K;have ce:∀a∈p,a∉T:=λa e K=>(by grind);have a0:∀v a,bb I C.B v a->a≠b:=λv a e o=>q.notM r b bl v (o▸e);have bs:=acW (w:=w) E.len z;have c1:aS (bb I C.B) (w.setCells b i y) d y x p:=E.mono (λv a e=>⟨e,rJ (a0 v a e)⟩) (λa e=>rJ (λo=>ce a e (by grind)));have fT:∀u,u<y.length->(w.cell? ⟨b,i+u,bo⟩).isSome=bp:=λu t=>(z _ aa (by have:=E.len;omega)).1;have ek:fq (w.setCells b i y) b i y:=λu d3 t=>(by grind [bS,akd,aiV]);obtain⟨d7,H,c2,_,ds,_,f0,d0,dl⟩:=ap (w.setCells b i y) (bb I C.B) y x p s (λ_ _ j=>j) (λa _=>bs a) c1 (λj=>by cases j) (λd4 f4 o=>by grind) D;obtain rfl:=ds bn (.inl ac);have bx:∀a∈H,a∈fp id\/∃c∈k,∃f,ar st.h c=Y f/\a∈fp c:=λa e=>(by grind);have a4:=q.eC (S:=id::k) (keep:=[(id,n)]) (new:=[(id,⟨P.1,s⟩)]) (rtn:=λ_=>rt id) (fpn:=λ_=>H) (w':=w.setCells b i y) (I':=I) ⟨?_,(pc _ _ _ _).1,(pc _ _ _ _).2.1,(pc _ _ _ _).2.2,?_,λa _=>.of_eq (Ao _ _ _ _ _),λ_ j=>j,λ_ j=>.inl j,?_,?_,?_,?_⟩
 ·exact⟨z,_,_,a4,by rw[Ey],d0⟩
 ·grind [ts]
 ·grind [x5]
 ·intro c f l;rw[ey] at l;split at l
  ·rename_i o;subst o;cases l;refine⟨.inl ac,c2,?_,λa e=>?_⟩
   ·grind
   rcases bx a e with j|⟨c,m,f,l,j⟩
   ·grind [ts]
   obtain⟨aw,d2,f5,f6⟩:=(q.tree c f l).2.2 a j;grind [ts]
  cases l
 ·intro c u f d3 m t fl;rw[ey] at m t;split at m
  ·split at t
   ·omega
   cases t
  cases m
 ·intro c m f l;simp only[gp] at m;subst m;rw[r] at l;obtain rfl:=gC l;refine⟨⟨P.1,s⟩,?_,bn,bn,⟨_,N.ty⟩,dl⟩;rw[ey,au bn]
 intro c m f l d1 f8 f7 f1 d5 f2 L co O M cv;simp only[gp] at m;subst m;rw[r] at l;obtain rfl:=gC l;refine⟨⟨P.1,s⟩,by rw[ey,au bn],uP L D M,λa e=>?_⟩;obtain⟨aw,d2⟩:=av d1 _ _ _ _ _ L (by exact co) M O cv a e;grind [akR,rJ]
theorem cN.store (p:cN C st A w I rt fp) {id:X} (v:ar st.h id=Y P) {b:X} {c:ah8} (s:aW w P.1 bo (rt id) n d (Y (b,i)) c) {o:d.den} {m:P.1.den} (u:fa P.1 P.2 n d o m) {S2:aie} (x:aS (bb I C.B) w d y o k) (t:k.Nodup) (q:id∉S2) (r:∀a∈k,(∃e,∃D:d.den,d.kD=bp/\aS (bb I C.B) w d c D e/\a∈e)\/∃j∈S2,∃z,ar st.h j=Y z/\a∈fp j):iC w b i (i+d.size)/\∃l f,cN C ⟨kill (id::S2) [(id,n)] st.g,(id,⟨P.1,m⟩)::del (id::S2) st.h⟩ A (w.setCells b i y) I l f:=by obtain⟨E,l,f,F,_⟩:=p.ads v s u x t q r;grind
inductive wg where
 |e4 (s:aO)
 |part (α:Type) (φ:α->Prop) (f:α->aO)
 |bad
def wg.K (c:wg) (Q:aO->Prop):Prop:=
 match c with
 |.e4 d=>Q d
 |.part e f b=>∃a:e,f a/\Q (b a)
 |.bad=>b6
def e0 (E:fA) (C:eY) (o:bR) (st:aO) (Q:aO->Prop):Prop:=
 ∀(a:Act) (w:bC),gI C st a.tmps w->∀(next:Act->bC->Prop) (e:b5->Act->bC->Prop),(∀c b d,Q c->b.defers=a.defers->gI C c b.tmps d->next b d)->o.wp E.P a w next e
variable {Q:aO->Prop}
def e0.eval {an:bm (X×ah)} (j:o.dst=Y b) (l:C.ok b) (i:(g3 E.tt an st.h (aT st.g) b o.op).K (λc e=>Q ⟨(b,c)::st.g,e++st.h⟩)):e0 E C o st Q:=by
 rintro a w ⟨I,rt,fp,d⟩ next r m
 exact(U0 d i).wp d j l (λc e f q n k p=>m _ f q n k p)
def rF (b:bm (X×aG)) (c:ak):bv (X×bm aZ):=
 match c with
 |.addr id a=>Y (id,a)
 |.ref id a=>match ar b id with
  |some ⟨d,_⟩=>match fm d a with
   |some (.optr _)=>Y (id,a++[.deref])
   |_=>bo
  |none=>bo
 |_=>bo
def Fs (
 tt:bm (bF×ah)) (st:aO) (m:bF) (o v:ak):wg:=
 match rF st.h o with
 |none=>.bad
 |some (
  id,p)=>match ar st.h id,ar tt m with
  |some ⟨b,e⟩,Y n=>match fm b p with
   |none=>.bad
   |some c=>bif a7 n c then match v with
    |.ref d i=>match ar st.h d with
     |some ⟨r,j⟩=>bif bH id d then .bad else
      .part (c.den×b.den) (λa=>eN r j i c a.1/\fa b e p c a.1 a.2) (λa=>⟨kill [id,d] [(id,p)] st.g,(id,⟨b,a.2⟩)::del [id,d] st.h⟩)
     |none=>.bad
    |.app d i f q l=>if _e:c=.osl f then
     .part (bm f.den×b.den) (λa=>d=id/\i=p/\eN b e p (.osl f) a.1/\fa b e p (.osl f) (a.1++q) a.2) (λa=>⟨kill (id::l) [(id,p)] st.g,(id,⟨b,a.2⟩)::del (id::l) st.h⟩) else .bad
    |v=>match coe c v with
     |some j=>.part b.den (λk=>fa b e p c j k) (λk=>⟨kill [id] [(id,p)] st.g,(id,⟨b,k⟩)::del [id] st.h⟩)
     |none=>.bad
   else .bad
  |_,_=>.bad
theorem abv (m:cN C st a.tmps w I rt fp) {id:X} (b:rF st.h (aT st.g c)=Y (id,n)) (k:ar st.h id=Y P) (v:fm P.1 n=Y d):∃j q r,a.eval c=.pointer (Y ⟨j,q,bo⟩)/\aW w P.1 bo (rt id) n d (Y (j,q)) r:=by
 have i:=m.aT c;unfold rF at b;generalize B:a.eval c=E at i;split at b
 ·rename_i y A l;cases b;rw[l] at i;cases i with|addr f e=>
  rw[k] at f;cases f;have:=e.ty;grind
 ·rename_i y A l;split at b
  case h_2=>cases b
  rename_i G F p;split at b
  case h_2=>cases b
  rename_i D x;cases b;rw[k] at p;cases p;rw[l] at i;cases i with|ref f e=>
  rw[k] at f;cases f;have:=e.ty;rw[x] at this;cases this;obtain⟨j,z,u,rfl,s,t⟩:=o7 (m.tree id _ k).1 e;have o:=e.append (aW.Hi s t);have:=o.ty;rw[v] at this;cases this;exact⟨j,z,u,bn,o⟩
 grind
theorem adr (k:ar E.tt x=Y d) (m:a7 d r=bp) (t:o.op=.store x h c) (u:a.eval h=.pointer (Y ⟨i,b,bo⟩)) (q:(a.eval c).cells=g.toArray) (s:g.length=r.size) (j:∀c∈g,c.oneCell'=bp) (f:iC w i b (b+r.size)):(bN a.eval o).run E.P w=.ok .skip (w.setCells i b g):=by have p:=(E.ok x d k).lay m;have n:=run_storeCells_cells (P:=E.P) i b g 0 w (λe l=>by simpa using(f (b+e) aa aa).1) (λe l=>by simpa using(f (b+e) aa aa).2) j;simp only[nf] at n;have:(storeVar x ⟨i,b,bo⟩ (a.eval c)).run E.P w=.ok () (w.setCells i b g):=(by simp only[storeVar,q,bY,p.sizeOf,b1];grind);simp_all [bN,Instr.storeAt,ajG]
theorem adq (c2:o.op=.store x h c) (bl:o.dst=bo) (b:(Fs E.tt st x (aT st.g h) (aT st.g c)).K Q):e0 E C o st Q:=by
 rintro a w ⟨I,rt,fp,f⟩ next ap c1
 have i:=f.aT c;unfold Fs at b;split at b
 ·exact b.elim
 rename_i id fs ds;split at b
 case h_2=>exact b.elim
 rename_i f4 f3 am q S;split at b
 ·exact b.elim
 rename_i u d2;cases v:a7 am u with
 |false=>rw[v] at b;exact b.elim
 |true=>
 rw[v] at b;simp only[bG] at b;obtain⟨O,L,d9,d3,z⟩:=abv f ds q d2;have G:=(E.ok x am S).lay v;have F:∀(k:ah8) (M:aO) (e:X->ah8) (d:X->aie),(a.eval c).cells=k.toArray->k.length=u.size->(∀c∈k,c.oneCell'=bp)->iC w O L (L+u.size)->cN C M a.tmps (w.setCells O L k) I e d->Q M->o.wp E.P a w next ap:=by
  intro k M e d aq B a0 a3 d1 d0;unfold ais;rw[adr S v c2 d3 aq B a0 a3];show next (a.put o.dst bW) _
  rw[bl];exact c1 _ _ _ d0 bn ⟨I,e,d,d1⟩
 split at b
 ·rename_i j V D;split at b
  case h_2=>exact b.elim
  rename_i f5 f0 A;cases T:bH id j with
  |true=>rw[T] at b;exact b.elim
  |false=>
   rw[T] at b;obtain⟨⟨N,an⟩,⟨ce,p⟩,b⟩:=b;have ex:id≠j:=λR=>(by simp_all);rw[D] at i;generalize J:a.eval c=d7 at i;cases i with|ref r H=>
   rw[A] at r;cases r;obtain⟨t,ad,ft⟩:=f.tree j _ A;obtain⟨fn,ek,f2,fz,d5,s,_,U,_⟩:=D0 V (τ':=u) (y:=N) t (loc:=bo) (λ_ _ b=>by cases b) ad (λ_ _ b=>by cases b) (f.notM A) ce;obtain⟨rfl,rfl,rfl⟩:=H.lw d5;have cv:f2.Nodup:=(jO.1 (U.nodup_iff.1 ad)).1;obtain⟨n,e,d,m⟩:=f.store q z p s cv (S2:=[j]) (by grind) (λav a4=>.inr ⟨j,ac,_,A,U.mem_iff.2 (by grind)⟩);exact F _ _ e d (by rw[J];exact ov G s.len s.one) s.len s.one n m b
 ·rename_i j V d8 f1 d6 D;split at b
  case isFalse=>exact b.elim
  rename_i R;subst R;obtain⟨⟨fT,an⟩,⟨rfl,rfl,bs,p⟩,b⟩:=b;rw[D] at i;generalize J:a.eval c=d7 at i;cases i with|app r co H bx el em l dl fl cs=>
  rw[q] at r;cases r;obtain rfl:=eN.uniq bs bx;obtain⟨_,aq,B⟩:=z.lw H;subst aq;subst B;have eq:(ah.osl d8).kD=bp:=co;obtain⟨n,e,d,m⟩:=f.store q z p l cs (S2:=d6) (λci=>(dl _ ci).1 bn) (λav a4=>by
   grind)
  exact F _ _ e d (by rw[J];have:=ov G l.len l.one;exact this) l.len l.one n m b
 split at b
 case h_2=>exact b.elim
 rename_i N d4;obtain⟨an,p,b⟩:=b;have t:=GK G i d4;obtain⟨n,e,d,m⟩:=f.store q z p t ac (S2:=[]) ac ac;exact F _ _ e d ac t.len t.one n m b
end
end
section
theorem DY (a:bm (bm N)) (c b:X):((a.take b).drop c).flatten.Sublist a.flatten:=by have d:a.flatten=((a.take b).take c).flatten++((a.take b).drop c).flatten++(a.drop b).flatten:=(by grind [List.flatten_append,ajM]);grind
section
variable {E:fA} {C:eY} {st:aO} {a:Act} {A:ah6} {w:bC} {I:X->Prop} {rt:X->ah8} {fp:X->aie} {o:bR} {Q:aO->Prop}
def BP (c:bm (X×ah)) (st:aO) (a:X) (i:ak):wg:=
 match i with
 |.ref id []=>match ar st.h id with
  |some b=>.e4 ⟨(a,.ref a [])::kill [id,a] [] st.g,(a,b)::del [id,a] st.h⟩
  |none=>.bad
 |.ref id f=>bif bH id a then .bad else .e4 ⟨(a,.ref id f)::kill [a] [] st.g,del [a] st.h⟩
 |.view id [] e d=>match ar st.h id with
  |some ⟨.osl b,j⟩=>.e4 ⟨(a,.ref a [])::kill [id,a] [] st.g,(a,⟨.osl b,(j.take d).drop e⟩)::del [id,a] st.h⟩
  |_=>.bad
 |.dh (.slice bo 0 0)=>match ar c a with
  |some (.osl b)=>.e4 ⟨(a,.ref a [])::kill [a] [] st.g,(a,⟨.osl b,[]⟩)::del [a] st.h⟩
  |_=>.bad
 |_=>.bad
theorem nk.one {w':bC} {I':X->Prop} {S:aie} {d:X} {t:aG} {cs:ah8} {f:aie} (x:d∈S\/ar st.h d=bo) (j:w.heap.size<=w'.heap.size) (k:w'.os=w.os) (l:w'.tape=w.tape) (m:w'.output=w.output) (n:∀a,a<w.heap.size->(∀id∈S,∀t,ar st.h id=Y t->a∉fp id)->w'.heap[a]?=w.heap[a]?) (q:∀a,a<w.heap.size->iS w' a=iS w a) (o:∀a,I a->I' a) (p:∀a,I' a->I a\/(a<w'.heap.size/\(w.heap.size<=a\/∃id∈S,∃t,ar st.h id=Y t/\a∈fp id))) (A:aS (bb I' C.B) w' t.1 cs t.2 f) (y:f.Nodup) (g:∀a∈f,¬I' a/\a<w'.heap.size/\(w.heap.size<=a\/∃i∈S,∃u,ar st.h i=Y u/\a∈fp i)):nk C st w w' I I' rt fp S [] [(d,t)] (λ_=>cs) (λ_=>f):=by
 refine⟨j,k,l,m,n,λa g=>.of_eq (q a g),o,p,?_,?_,(λid r=>by grind),(λid r=>by grind)⟩
 ·intro s v e;rw[ey] at e;split at e
  ·grind
  cases e
 intro s D v E b c z;rw[ey] at b c;split at b
 ·split at c
  ·omega
  cases c
 cases b
theorem e0.Tk (d6:o.op=.assign c) (d2:o.dst=Y b) (ad:C.ok b) (e:(BP l st b (aT st.g c)).K Q):e0 E C o st Q:=by
 rintro a w ⟨I,rt,fp,s⟩ next U d5
 have n:=s.aT c;have an:(bN a.eval o).run E.P w=.ok (.value (a.eval c)) w:=(by simp[bN,d6]);have H:∀(T:aO) (rtn:X->ah8) (fpn:X->aie),cN C T (a.tmps.setIfInBounds b (a.eval c)) w I rtn fpn->Q T->o.wp E.P a w next U:=by
  intro T rtn fpn x M;unfold ais;rw[an];show next (a.put o.dst (a.eval c)) w
  rw[d2];exact d5 _ _ _ M bn ⟨I,rtn,fpn,x⟩
 have z:∀(S:aie) (i:aG) (A:ah8) (p:aie),b∈S->aS (bb I C.B) w i.1 A i.2 p->p.Nodup->(∀k∈p,∃a3∈S,∃el,ar st.h a3=Y el/\k∈fp a3)->a.eval c=cW i.1 A->Q ⟨(b,.ref b [])::kill S [] st.g,(b,i)::del S st.h⟩->o.wp E.P a w next U:=by
  intro S i A p d3 x D u d7 M;have v:=s.eC (nk.one (st:=st) (C:=C) (rt:=rt) (w':=w) (I':=I) (S:=S) (d:=b) (t:=i) (cs:=A) (f:=p) (.inl d3) (bc _) rfl rfl rfl (λ_ _ _=>rfl) (λ_ _=>rfl) (λ_ e=>e) (λ_ e=>.inl e) x D (λk ds=>by
   obtain⟨F,q,em,v,d0⟩:=u k ds;obtain⟨aw,d9,a4,bl⟩:=(s.tree F em v).2.2 k d0;grind))
  refine H _ _ _ (v.put ad (av:=.ref b []) ?_) M;rw[d7];refine .ref (t:=i) (loc:=bo) (by rw[kA,ey,au bn];rfl) ?_;rw[Ey];exact aW.here
 unfold BP at e;split at e
 ·rename_i id m;split at e
  case h_2=>exact e.elim
  rename_i i y;rw[m] at n;obtain⟨R,bs,ek⟩:=s.tree id i y;refine z [id,b] i (rt id) (fp id) ac R bs (λk u=>⟨id,ac,i,y,u⟩) ?_ e;generalize ap:a.eval c=bx at n;cases n with|ref N am=>
  grind [aW.gv]
 ·rename_i id O _ m;cases u:bH id b with
  |true=>rw[u] at e;exact e.elim
  |false=>
   rw[u] at e;have f4:id≠b:=λfz=>(by simp_all);have v:=s.eC (S:=[b]) (keep:=[]) (new:=[]) (rtn:=rt) (fpn:=fp) (w':=w) (I':=I) ⟨bc _,bn,bn,bn,λ_ _ _=>rfl,λ_ _=>.refl _ _,λ_ e=>e,λ_ e=>.inl e,(λ_ _ e=>by cases e),(λ_ _ _ _ e=>by cases e),(λ_ e=>by cases e),(λ_ e=>by cases e)⟩;refine H _ _ _ (v.put ad (av:=.ref id O) ?_) e;have:=v.aT (a:=a) c;have fT:aT (kill [b] [] st.g) c=.ref id O:=by
    cases c with
    |tmp i=>
     show gt (kill [b] [] st.g) i=_;rw[p6,show gt st.g i=.ref id O from m];grind [ha,fG,fc,ak.fo,ak.ids,eQ,absurd]
    |const eq=>exact absurd m (by cases eq<;>simp[aT])
    |global f0=>cases m
    |func p=>cases m
   grind
 ·rename_i id j q m;split at e
  case h_2=>exact e.elim
  rename_i i ce y;rw[m] at n;obtain⟨R,bs,ek⟩:=s.tree id _ y;generalize ap:a.eval c=bx at n z H an;cases n with|l7=>(exact z [id,b] ⟨.osl i,[]⟩ [.slice bo 0 0] [] ac ⟨bo,0,bn,.inl ⟨bn,bn,bn,bn⟩⟩ ac ac bn e)|view N am f5 f6 f7=>
  rename_i k G f8 r;rw[y] at N;cases N;obtain⟨aq,_,c1⟩:=aW.gv.1 am;cases aq;obtain⟨fl,fs,L,x⟩:=R;rw[c1] at L;simp only[hN,aio,b9] at L;obtain⟨rfl,rfl,rfl⟩:=L;rcases x with⟨J,_⟩|⟨fn,f9,V,J,f2,aw,d9,a4,bl⟩
  ·cases J
  cases J;have d4:((ce.take q).drop j).length=q-j:=(by grind);refine z [id,b] ⟨.osl i,(ce.take q).drop j⟩ [.slice (Y ⟨k,if r=j then G else G+j*i.size,bo⟩) (q-j) (r-j)] (k::((V.take q).drop j).flatten) ac ?_ ?_ ?_ bn e
  ·refine⟨Y ⟨k,if r=j then G else G+j*i.size,bo⟩,r-j,by rw[d4],.inr ⟨k,_,(V.take q).drop j,bn,bn,by grind,by grind,?_,?_⟩⟩
   ·intro d8 c2 dl;by_cases d1:r=j
    ·grind
    rw[az d1] at c2 dl;have:j*i.size+(r-j)*i.size=r*i.size:=(by rw[<-mN];grind);exact a4 d8 aa aa
   intro F ex p a0 D;have f3:F<q-j:=(by grind);rw[pw,r2 aa] at a0 D;obtain⟨cv,ci,ft,co⟩:=bl (j+F) ex p a0 D;refine⟨cv,ci,?_,co⟩;grind
  ·grind [List.nodup_cons,DY]
  grind [DY,akA]
 ·rename_i m;split at e
  case h_2=>exact e.elim
  rename_i i f1;rw[m] at n;refine z [b] ⟨.osl i,[]⟩ [.slice bo 0 0] [] ac ⟨bo,0,bn,.inl ⟨bn,bn,bn,bn⟩⟩ ac ac ?_ e;generalize ap:a.eval c=bx at n;cases n;rfl
 exact e.elim
end
end
section
inductive lT (σ:ah) where
 |e4 (ys:bm σ.den)
 |part (α:Type) (φ:α->Prop) (f:α->bm σ.den)
 |bad
def rS (g:bm (X×aG)) (b:ah) (k:ak):lT b:=
 match k with
 |.val (.a2 _ j) a=>if e:j=b then .e4 (e▸a) else .bad
 |.dh (.slice bo 0 0)=>.e4 []
 |.ref id c=>match ar g id with
  |some ⟨f,d⟩=>bif b.pure then .part (bm b.den) (λa=>eN f d c (.osl b) a) (λa=>a) else .bad
  |none=>.bad
 |.view id c i h=>match ar g id with
  |some ⟨f,d⟩=>bif b.pure then .part (bm b.den) (λa=>eN f d c (.osl b) a) (λa=>(a.take h).drop i) else .bad
  |none=>.bad
 |_=>.bad
def lT.to {f:ah} (g:lT f) (c:X->Prop) (b:bm f.den->aO):wg:=
 match g with
 |.e4 e=>.part bt (λ_=>c e.length) (λ_=>b e)
 |.part h i d=>.part h (λa=>i a/\c (d a).length) (λa=>b (d a))
 |.bad=>.bad
def BN (
 tt:bm (bF×ah)) (t:bm (X×ah)) (st:aO) (a:X) (s:bF) (j k:ak):wg:=
 match gZ tt s with
 |none=>.bad
 |some o=>match j with
  |.ref id []=>match ar st.h id with
   |some ⟨.osl b,d⟩=>bif a7 o b&&b2 b.size 1300 then
    match b.pure,k with
    |false,.ref n []=>match ar st.h n with
     |some ⟨.osl v,c⟩=>if e:v=b then bif bH id n then .bad else .part bt (λ_=>d.length+c.length<=hC) (λ_=>⟨(a,.ref a [])::kill [id,n,a] [] st.g,(a,⟨.osl b,d++(e▸c)⟩)::del [id,n,a] st.h⟩) else .bad
     |_=>.bad
    |_,k=>(rS st.h b k).to (λl=>d.length+l<=hC) (λc=>⟨(a,.ref a [])::kill [id,a] [] st.g,(a,⟨.osl b,d++c⟩)::del [id,a] st.h⟩)
    else .bad
   |_=>.bad
  |.ref id f=>match ar st.h id,ar st.h a with
   |some ⟨m,j⟩,bo=>match fm m f with
    |some (.osl b)=>bif a7 o b&&b2 b.size 1300&&b.kD then
     match rS st.h b k with
     |.e4 c=>.part (bm b.den) (λd=>eN m j f (.osl b) d/\d.length+c.length<=hC) (λ_=>⟨(a,.app id f b c [a])::kill [id] [(id,f),(id,[])] st.g,(a,⟨.eK,()⟩)::(id,⟨m,j⟩)::del [id] st.h⟩)
     |.part u w p=>.part (bm b.den×u) (λi=>eN m j f (.osl b) i.1/\w i.2/\i.1.length+(p i.2).length<=hC) (λi=>⟨(a,.app id f b (p i.2) [a])::kill [id] [(id,f),(id,[])] st.g,(a,⟨.eK,()⟩)::(id,⟨m,j⟩)::del [id] st.h⟩)
     |.bad=>.bad
     else .bad
    |_=>.bad
   |_,_=>.bad
  |.view id [] r q=>match ar st.h id with
   |some ⟨.osl b,d⟩=>bif a7 o b&&b2 b.size 1300 then
    (rS st.h b k).to (λl=>((d.take q).drop r).length+l<=hC) (λc=>⟨(a,.ref a [])::kill [id,a] [] st.g,(a,⟨.osl b,(d.take q).drop r++c⟩)::del [id,a] st.h⟩)
    else .bad
   |_=>.bad
  |.dh (.slice bo 0 0)=>match ar t a with
   |some (.osl b)=>bif a7 o b&&b2 b.size 1300 then
    (rS st.h b k).to (λl=>l<=hC) (λc=>⟨(a,.ref a [])::kill [a] [] st.g,(a,⟨.osl b,c⟩)::del [a] st.h⟩)
    else .bad
   |_=>.bad
  |_=>.bad
section
variable {E:fA} {C:eY} {st:aO} {a:Act} {A:ah6} {w:bC} {I:X->Prop} {rt:X->ah8} {fp:X->aie} {o:bR} {Q:aO->Prop}
def yI (I:X->Prop) (e:X->Prop) (w:bC) (d:ah) (g:Value) (c:bm d.den):Prop:=
 ∃b f a,g=.slice b c.length f/\kj (bb I e) w d b c a/\a.flatten=[]
def HH {b:ev} (c:∀a∈b,a=[]):b.flatten=[]:=by
 induction b with
 |nil=>rfl
 |cons f g e=>rw[lQ,c f ac,e (λa d=>c a (hW _ d))];rfl
theorem kj.pure {f:eD->X->Prop} {e:ah} {g:bv Addr} {d:bm e.den} {c:ev} (i:e.pure=bp) (a:kj f w e g d c):c.flatten=[]:=by
 refine HH (λm h=>?_);obtain⟨q,a⟩:=a;obtain⟨b,n,rfl⟩:=hu.1 h;rcases a with rfl|⟨k,o,_,a⟩
 ·grind
 have p:b<d.length:=aa;obtain⟨l,_,_,j⟩:=a b d[b] c[b] ac ac;exact j.pure i
def lT.holds {c:ah} (e:lT c) (b:bm c.den):Prop:=
 match e with
 |.e4 f=>b=f
 |.part g h d=>∃a:g,h a/\b=d a
 |.bad=>b6
def lT.Fz {f:lT d} {g:bm d.den->aO} (b:(f.to j g).K Q):∃a,f.holds a/\j a.length/\Q (g a):=by
 unfold lT.to at b;cases f with
 |e4 a=>obtain⟨_,c,e⟩:=b;exact⟨a,bn,c,e⟩
 |part l m k=>obtain⟨h,⟨c,e⟩,i⟩:=b;exact⟨k h,⟨h,c,bn⟩,e,i⟩
 |bad=>exact b.elim
theorem vP (x:cN C st a.tmps w I rt fp) {s:bm d.den} (b:(rS st.h d (aT st.g c)).holds s):yI I C.B w d (a.eval c) s:=by
 have f:=x.aT c;unfold rS at b;generalize V:a.eval c=bl at f;split at b
 ·rename_i av a4 q j;split at b
  case isFalse=>exact b.elim
  rename_i n;subst n;obtain rfl:s=q:=b;rw[j] at f;cases f with|val E=>
  have N:=E;obtain⟨_,t,m,rfl,_⟩:=N;obtain⟨_,e⟩:=kj.a2 E;exact⟨t,m,_,bn,e,ac⟩
 ·rename_i j;obtain rfl:s=[]:=b;rw[j] at f;cases f;exact⟨bo,0,[],bn,⟨bn,.inl bn⟩,bn⟩
 ·rename_i id M j;split at b
  case h_2=>exact b.elim
  rename_i P O o;cases k:d.pure with
  |false=>rw[k] at b;exact b.elim
  |true=>
   rw[k] at b;obtain⟨q,y,rfl⟩:=b;rw[j] at f;cases f with|ref p z=>
   rw[o] at p;cases p;obtain⟨rfl,u,r,_⟩:=x.kW o y z;have L:=r;obtain⟨t,m,rfl,_⟩:=L;obtain⟨_,_,v,e,_⟩:=kj.osl r;exact⟨t,m,v,bn,e,e.pure k⟩
 ·rename_i id M i l j;split at b
  case h_2=>exact b.elim
  rename_i P O o;cases k:d.pure with
  |false=>rw[k] at b;exact b.elim
  |true=>
   rw[k] at b;obtain⟨q,y,rfl⟩:=b;rw[j] at f;cases f with|l7=>(exact⟨bo,0,[],bn,⟨bn,.inl bn⟩,bn⟩)|view p z ad am an=>
   rename_i F a3 ap m;rw[o] at p;cases p;obtain⟨n,u,r,_⟩:=x.kW o y z;cases n;obtain⟨aq,_,v,e,_⟩:=kj.osl r;have K:((q.take l).drop i).length=l-i:=(by grind);show yI I C.B w d _ ((q.take l).drop i);refine⟨_,m-i,(v.take l).drop i,by rw[K],⟨by simp[e.1],?_⟩,?_⟩
   ·obtain⟨T,e⟩:=e;by_cases U:l=i
    ·grind
    right;rcases e with rfl|⟨Q,a0,n,e⟩
    ·grind
    cases n;refine⟨F,_,bn,λD c u f A=>?_⟩;have S:D<l-i:=(by grind);rw[pw,r2 aa] at f A;obtain⟨J,G,R,H⟩:=e (i+D) c u f A;refine⟨J,G,?_,H⟩;grind
   have:=e.pure k;grind [DY]
 exact b.elim
theorem aev {c f l a:X} {m:bm d.den} (p:aS e w (.osl d) [.slice (Y ⟨c,f,bo⟩) l i] m k) (B:k.Nodup) (D:b<=a) (E:a<=l) (F:l<=i):∃h,aS e w (.osl d) [.slice (Y ⟨c,if i=b then f else f+b*d.size,bo⟩) (a-b) (i-b)] ((m.take a).drop b) h/\h.Nodup/\∀o∈h,o∈k:=by
 obtain⟨y,A,n,u⟩:=p;simp only[hN,aio,b9] at n;obtain⟨rfl,rfl,rfl⟩:=n;rcases u with⟨j,_⟩|⟨z,G,g,j,rfl,aw,H,x,I⟩
 ·cases j
 cases j;have t:((m.take a).drop b).length=a-b:=(by grind);have C:((g.take a).drop b).flatten.Sublist g.flatten:=DY _ _ _;refine⟨c::((g.take a).drop b).flatten,⟨Y ⟨c,if i=b then f else f+b*d.size,bo⟩,i-b,by rw[t],.inr ⟨c,_,(g.take a).drop b,bn,bn,by grind,aa,?_,?_⟩⟩,?_,?_⟩
 ·intro v q r;by_cases s:i=b
  ·grind
  rw[az s] at q r;have:b*d.size+(i-b)*d.size=i*d.size:=(by rw[<-mN];grind);exact x v aa aa
 ·grind
 ·grind
 grind
def Lk (b:o.op=.call {callee:=.builtin .append,args:=#[c,h],argTypes:=#[x,x]}) (d:(akb #[x,x] o.type #[a.eval c,a.eval h]).run E.P w=.ok R f):(bN a.eval o).run E.P w=.ok (.value R) f:=by simp only[bN,b,aiW,invoke,ajc,bY,cx,b1,akM,h8,ajs,d]
theorem e0.yM {K L:bO} (c1:o.op=.call {callee:=.builtin .append,args:=#[K,L],argTypes:=#[x,x]}) (ap:o.dst=Y b) (a4:C.ok b) (p:cN C st a.tmps w I rt fp) {next:Act->bC->Prop} {N:b5->Act->bC->Prop} (cv:∀H z m,Q H->z.defers=a.defers->gI C H z.tmps m->next z m) {J:ah} (ad:gZ E.tt x=Y J) (ce:a7 J r=bp) (d0:r.size<=1300) {S:aie} (a0:b∈S) {G A:X} {xs q:bm r.den} {f1:aie} {v:ev} {M:bv Addr} (fz:a.eval K=.slice s G A) (ds:aS (bb I C.B) w (.osl r) [.slice s G A] xs f1) (bs:f1.Nodup) (fl:∀e∈f1,∃j∈S,∃k,ar st.h j=Y k/\e∈fp j) (fT:a.eval L=.slice M q.length i) (bl:kj (bb I C.B) w r M q v) (bx:v.flatten.Nodup) (fn:∀e∈v.flatten,∃j∈S,∃k,ar st.h j=Y k/\e∈fp j) (a3:∀e∈f1,e∉v.flatten) (ci:xs.length+q.length<=hC) (c2:Q ⟨(b,.ref b [])::kill S [] st.g,(b,⟨.osl r,xs++q⟩)::del S st.h⟩):o.wp E.P a w next N:=by
 obtain⟨j,el,em,T,U⟩:=gZ.ok ad;have D:=U.lay ce;obtain⟨f0,_,d2,_⟩:=D.info;have ft:∀j k,ar st.h j=Y k->∀e∈fp j,e<w.heap.size/\∀F,¬bb I C.B F e:=λj k y e l=>⟨((p.tree j k y).2.2 e l).2.2.1,p.notM y e l⟩;obtain⟨u,m,f2,f6,d4,_,aJ,d5,d6,d7,d8,d9,d3,f7,_,ek⟩:=Ll (P:=E.P) (ty:=o.type) T D d2.info d0 ds (c:=i) bl bs (λe l=>by grind) bx a3 (λF e co=>p.ib e (mW co)) (λe l=>by grind) (λe l=>by grind) ci;have dl:(bN a.eval o).run E.P w=.ok (.value u) m:=Lk (E:=E) c1 (by grind);have an:∀e∈f2,(∃j∈S,∃k,ar st.h j=Y k/\e∈fp j)\/(w.heap.size<=e/\e<m.heap.size):=λe l=>by
  rcases d5 e l with n|n|n
  ·grind
  ·grind
  omega
 have d1:=p.eC (nk.one (st:=st) (C:=C) (rt:=rt) (w':=m) (I':=I) (S:=S) (d:=b) (t:=⟨.osl r,xs++q⟩) (cs:=[u]) (f:=f2) (.inl a0) d6 d7 d8 d9 (λe l eq=>d3 e l (λex=>by grind)) ek (λ_ n=>n) (λ_ n=>.inl n) d4 aJ (λe l=>by
   rcases an e l with⟨j,fs,k,y,am⟩|⟨O,R⟩
   ·obtain⟨aw,f3,f4,f5⟩:=(p.tree j k y).2.2 e am;grind
   exact⟨λV=>by have:=p.ib e (.inl V);omega,R,.inl O⟩))
 unfold ais;rw[dl];show next (a.put o.dst u) m
 rw[ap];refine cv _ _ _ c2 bn ⟨I,_,_,d1.put a4 (av:=.ref b []) ?_⟩;have:u=cW (.osl r) [u]:=rfl;rw[this];refine .ref (t:=⟨.osl r,xs++q⟩) (loc:=bo) (by rw[kA,ey,au bn];rfl) ?_;rw[Ey];exact aW.here
end
end
section
section
variable {E:fA} {C:eY} {st:aO} {a:Act} {A:ah6} {w:bC} {I:X->Prop} {rt:X->ah8} {fp:X->aie} {o:bR} {Q:aO->Prop}
theorem Ln {a0 f0:bO} (i8:o.op=.call {callee:=.builtin .append,args:=#[a0,f0],argTypes:=#[x,x]}) (ce:o.dst=Y b) (hr:C.ok b) (p:cN C st a.tmps w I rt fp) {next:Act->bC->Prop} {f1:b5->Act->bC->Prop} (i3:∀fz a3 w',Q fz->a3.defers=a.defers->gI C fz a3.tmps w'->next a3 w') {ap:ah} (gl:gZ E.tt x=Y ap) (io:a7 ap r=bp) (kg:r.size<=1300) (dl:r.kD=bp) {id:X} (hs:aT st.g a0=.ref id n) {m:d.den} (u:ar st.h id=Y ⟨d,m⟩) (hi:ar st.h b=bo) {y O:bm r.den} (cs:eN d m n (.osl r) y) {S2:aie} (le:∃d1 G A,a.eval f0=.slice d1 O.length G/\kj (bb I C.B) w r d1 O A/\A.flatten.Nodup/\∀e∈A.flatten,∃f∈S2,∃z,ar st.h f=Y z/\e∈fp f) (bx:∀f∈S2,f≠id/\∃ap,ar st.h f=Y ap) (is:y.length+O.length<=hC) (el:Q ⟨(b,.app id n r O (b::S2))::kill [id] [(id,n),(id,[])] st.g,(b,⟨.eK,()⟩)::(id,⟨d,m⟩)::del [id] st.h⟩):o.wp E.P a w next f1:=by
 obtain⟨f,pm,bs,gc,ge⟩:=gZ.ok gl;have d4:=ge.lay io;obtain⟨rs,_,mp,_⟩:=d4.info;have ds:=p.aT a0;rw[hs] at ds;generalize lc:a.eval a0=tl at ds;cases ds with|ref q c2=>
 rename_i t0 d2 f3;rw[u] at q;cases q;simp only at c2;obtain⟨mt,fn,mz⟩:=p.tree id _ u;obtain⟨s0,ps,H,d0,f6,d3,f7,R,rg,f8,f9⟩:=z8 n (loc:=bo) mt (λ_ _ j=>by cases j) fn (λ_ _ j=>by cases j) (p.notM u) cs;obtain⟨f4,aq,f5⟩:=c2.lw f6;subst f4;subst aq;subst f5;have ek:=R.nodup_iff.1 fn;rw[jO] at ek;obtain⟨i0,d9,i1⟩:=ek;obtain⟨a4,bl,rfl,_⟩:=(show aS (bb I C.B) w (.osl r) f3 y H from d3);obtain⟨d1,G,A,lk,hv,ic,co⟩:=le;have V:∀e∈H,e∈fp id:=λe i=>R.mem_iff.2 (by grind);have c1:∀e∈fp id,e<w.heap.size/\∀M,¬bb I C.B M e:=λe i=>⟨(mz e i).2.2.1,p.notM u e i⟩;have lf:∀e∈A.flatten,e<w.heap.size:=λe i=>(by obtain⟨f,l,z,ad,T⟩:=co e i;exact((p.tree f z ad).2.2 e T).2.2.1);obtain⟨fT,w',f2,ne,nn,ft,no,nx,n7,of,ol,on,fs,ti,_,or⟩:=Ll (P:=E.P) (ty:=o.type) gc d4 mp.info kg d3 (c:=G) hv i0 (λe i=>(c1 e (V e i)).2) ic (λe i gt=>by
  obtain⟨f,l,z,ad,T⟩:=co e gt;exact p.dis id f _ z u ad (bx f l).1.symm e (V e i) T)
  (λM e d8=>p.ib e (mW d8)) (λe i=>(c1 e (V e i)).1) lf is
 have kd:(bN a.eval o).run E.P w=.ok (.value fT) w':=Lk (E:=E) i8 (by rw[lc,lk];exact ne);have em:∀e∈d0,e<w.heap.size/\e∉H:=λe i=>⟨(c1 e (R.mem_iff.2 (by grind))).1,λj=>i1 e j e i bn⟩;have eq:∀e,(∃M,bb I C.B M e)\/e∈d0->c8 w w' e:=λe i=>by
  rcases i with⟨M,d8⟩|i
  ·grind
  exact .of_heap (fs e (em e i).1 (em e i).2)
 have go:∀e N,d2=Y (e,N)->fq w' e N [.slice a4 y.length bl]:=λe N k=>(by have i:e∈d0:=(by grind);exact(f7 e N k).1.sm (eq e (.inr i)));obtain⟨pv,J,sz,_,ll,_,lo,lt⟩:=f8 w' (bb I C.B) [.slice a4 y.length bl] y H m (λ_ _ j=>j) (λe i=>by
  have U:c8 w w' e:=eq e (by
   rcases i with j|j|⟨N,j⟩
   ·grind
   ·grind
   grind)
  exact⟨λv _=>(U.1 v).1,λv=>(U.1 v).2,λv=>by rw[(U.1 v).1],U.2⟩) ft (λ_ _=>rfl) go (fa.same cs)
 obtain rfl:=ll bn (.inr bn);have rl:J.Perm (fp id):=lo.trans R.symm;have s:b≠id:=λk=>(by grind);have d6:∀e∈f2,e∈H\/e∈A.flatten\/(w.heap.size<=e/\e<w'.heap.size):=λe i=>nx e i
 let K:=f2.filter λe=>br (w.heap.size<=e)
 have hw:∀e∈K,w.heap.size<=e/\e<w'.heap.size:=λe i=>by
  have gs:=ht.1 i;have bs:w.heap.size<=e:=(by grind);rcases d6 e gs.1 with j|j|j
  ·grind
  ·grind
  omega
 have lb:=p.eC (S:=[id]) (keep:=[(id,n),(id,[])]) (new:=[(b,⟨.eK,()⟩),(id,⟨d,m⟩)]) (rtn:=λf=>if f=b then[] else rt id) (fpn:=λf=>if f=b then K else J) (w':=w') (I':=I) ⟨n7,of,ol,on,λe i gi=>fs e i (λj=>gi id ac _ u (V e j)),λe i=>.of_eq (or e i),λ_ j=>j,λ_ j=>.inl j,(by
   intro f F l;rw[ey] at l;split at l
   ·rename_i k;subst k;cases l;refine⟨.inr hi,(by simp only[cj];exact bn),(by grind),λe i=>?_⟩;simp only[cj] at i;obtain⟨aw,an⟩:=hw e i;exact⟨λgf=>by have:=p.ib e (.inl gf);omega,an,.inl aw⟩
   ·rw[ey] at l;split at l
    ·rename_i _ k;subst k;grind
    cases l),(by
   intro f v os oN l ii ro e i;have d5:∀am F,ar [(b,(⟨.eK,()⟩:aG)),(id,⟨d,m⟩)] am=Y F->am=b\/am=id:=λam F D=>by
    rw[ey] at D;split at D
    ·omega
    rw[ey] at D;split at D
    ·omega
    cases D
   have L:¬(id=b):=λk=>s k.symm;rcases d5 f os l with rfl|rfl<;>rcases d5 v oN ii with rfl|rfl
   ·omega
   ·grind
   ·grind
   omega),(by
   intro f l F q;have cv:f=(id,n)\/f=(id,[]):=(by grind);have bs:f.1=id:=(by grind);have q:ar st.h id=Y F:=(by grind);rw[u] at q;obtain rfl:=gC q;have L:¬(id=b):=λk=>s k.symm;refine⟨⟨d,m⟩,by rw[bs,ey,az s,ey,au bn],bn,by grind,(by rcases cv with rfl|rfl;exact⟨_,c2.ty⟩;exact⟨d,by cases d<;>rfl⟩),λfl _ _ _ D el=>?_⟩;grind [Ej]),(by
   intro f l F q fl t1 to mc pr ra ce dl d9 d7 jp;have cv:f=(id,n)\/f=(id,[]):=(by grind);rcases cv with rfl|rfl
   ·rw[u] at q;obtain rfl:=gC q;have L:¬(id=b):=λk=>s k.symm;refine⟨⟨d,m⟩,by rw[ey,az s,ey,au bn],d7,λG hc=>?_⟩;obtain⟨aw,an⟩:=f9 fl _ _ _ _ _ ce (by exact dl) d7 d9 jp G hc;grind
   grind [uO])⟩
 unfold ais;rw[kd];show next (a.put o.dst fT) w'
 rw[ce];refine i3 _ _ _ el bn ⟨I,_,_,lb.put hr (av:=.app id n r O (b::S2)) ?_⟩;have L:¬(id=b):=λk=>s k.symm;have l2:ar ([(b,(⟨.eK,()⟩:aG)),(id,⟨d,m⟩)]++del [id] st.h) id=Y ⟨d,m⟩:=(by rw[kA,ey,az s,ey,au bn];rfl);have mc:ar ([(b,(⟨.eK,()⟩:aG)),(id,⟨d,m⟩)]++del [id] st.h) b=Y ⟨.eK,()⟩:=(by rw[kA,ey,au bn];rfl);have ex:ar [(b,(⟨.eK,()⟩:aG)),(id,⟨d,m⟩)] id=Y ⟨d,m⟩:=(by rw[ey,az s,ey,au bn]);have mo:ar [(b,(⟨.eK,()⟩:aG)),(id,⟨d,m⟩)] b=Y ⟨.eK,()⟩:=(by rw[ey,au bn]);have rd:fh [(b,(⟨.eK,()⟩:aG)),(id,⟨d,m⟩)] (λf=>if f=b then K else J) fp id=J:=(by simp only[fh,ex,az L]);have rb:fh [(b,(⟨.eK,()⟩:aG)),(id,⟨d,m⟩)] (λf=>if f=b then K else J) fp b=K:=(by simp only[fh,mo,cj]);have nd:fh [(b,(⟨.eK,()⟩:aG)),(id,⟨d,m⟩)] (λf=>if f=b then[] else rt id) rt id=rt id:=(by simp only[fh,ex,az L]);have i2:aW w' d bo (rt id) n (.osl r) d2 [.slice a4 y.length bl]:=lt.1;refine .app (t:=⟨d,m⟩) l2 dl (by rw[nd];exact i2) cs ft (λe i=>by grind) nn ?_ ?_ no
 ·intro f l;rcases fR.1 l with rfl|l
  ·grind
  obtain⟨aw,pl,an⟩:=bx f l;have ci:¬(b=f):=λk=>(by grind);refine⟨aw,pl,?_⟩;rw[kA,ey,az ci,ey,az (λk=>aw k.symm),mV,az (by grind),an];rfl
 intro e i;rcases d6 e i with j|j|j
 ·grind
 ·obtain⟨f,l,z,ad,T⟩:=co e j;obtain⟨aw,_⟩:=bx f l;have ci:¬(b=f):=λk=>(by grind);have tf:ar [(b,(⟨.eK,()⟩:aG)),(id,⟨d,m⟩)] f=bo:=(by rw[ey,az ci,ey,az (λk=>aw k.symm)];rfl);exact .inr ⟨f,hW _ l,by grind [fh]⟩
 grind
theorem Lm {p:bO} (N:o.op=.call {callee:=.builtin .append,args:=#[c,p],argTypes:=#[x,x]}) (A:o.dst=Y b) (F:C.ok b) (y:cN C st a.tmps w I rt fp) {next:Act->bC->Prop} (M:∀j e l,Q j->e.defers=a.defers->gI C j e.tmps l->next e l) {k:ah} (z:gZ E.tt x=Y k) (J:a7 k d=bp) (R:d.size<=1300) (L:d.kD=bp) {id:X} (G:aT st.g c=.ref id n) {i:r.den} (S:ar st.h id=Y ⟨r,i⟩) (D:ar st.h b=bo) {m f:bm d.den} (H:eN r i n (.osl d) m) (T:yI I C.B w d (a.eval p) f) (K:m.length+f.length<=hC) (O:Q ⟨(b,.app id n d f [b])::kill [id] [(id,n),(id,[])] st.g,(b,⟨.eK,()⟩)::(id,⟨r,i⟩)::del [id] st.h⟩):o.wp E.P a w next t:=by obtain⟨U,q,s,u,v,V⟩:=T;exact Ln (S2:=[]) N A F y M z J R L G S D H ⟨U,q,s,u,v,by grind,by grind⟩ ac K O
end
end
section
section
variable {E:fA} {C:eY} {st:aO} {o:bR} {Q:aO->Prop}
theorem e0.app {d1:bm (X×ah)} {U:bF} {z L:bO} {s:X} (y:o.op=.call {callee:=.builtin .append,args:=#[z,L],argTypes:=#[U,U]}) (v:o.dst=Y s) (w:C.ok s) (a:(BN E.tt d1 st s U (aT st.g z) (aT st.g L)).K Q):e0 E C o st Q:=by
 rintro A J ⟨F,R,H,c⟩ next fz x
 have q:=c.aT z;unfold BN at a;split at a
 ·exact a.elim
 rename_i T u;split at a
 ·rename_i id t;split at a
  case h_2=>exact a.elim
  rename_i e l f;cases b:(a7 T e&&b2 e.size 1300) with
  |false=>rw[b] at a;exact a.elim
  |true=>
  rw[b] at a;simp only[bk] at b;obtain⟨j,d⟩:=b;have d:=gS d;simp only[bG] at a;rw[t] at q;generalize D:A.eval z=ds at q;cases q with|ref I ap=>
  rw[f] at I;cases I;obtain⟨aq,_,G⟩:=aW.gv.1 ap;subst aq;subst G;obtain⟨O,P,fl⟩:=c.tree id _ f;obtain⟨a3,ad,f2,_⟩:=(show aS (bb F C.B) J (.osl e) (R id) l (H id) from O);have c1:A.eval z=.slice a3 l.length ad:=(by rw[D];show(R id).headD bW=_;grind);have dl:aS (bb F C.B) J (.osl e) [.slice a3 l.length ad] l (H id):=(by grind);split at a
  ·rename_i k f5 d2;split at a
   case h_2=>exact a.elim
   rename_i d0 r N;split at a
   case isFalse=>exact a.elim
   rename_i bs;subst bs;cases bx:bH id k with
   |true=>rw[bx] at a;exact a.elim
   |false=>
   rw[bx] at a;have d6:id≠k:=λbs=>(by grind [aka]);obtain⟨_,h,a⟩:=a;have av:=c.aT L;rw[d2] at av;generalize p:A.eval L=gf at av;cases av with|ref cv d5=>
   rw[N] at cv;cases cv;obtain⟨aq,_,G⟩:=aW.gv.1 d5;subst aq;subst G;obtain⟨fn,fs,ge⟩:=c.tree k _ N;obtain⟨a4,bl,f3,_⟩:=(show aS (bb F C.B) J (.osl d0) (R k) r (H k) from fn);have d7:A.eval L=.slice a4 r.length bl:=(by rw[p];show(R k).headD bW=_;grind);have fp:aS (bb F C.B) J (.osl d0) [.slice a4 r.length bl] r (H k):=(by grind);obtain⟨_,_,M,n,ci,d4,_⟩:=kj.osl fp;exact e0.yM y v w c x u j d (S:=[id,k,s]) ac c1 dl P (λm b=>⟨id,ac,_,f,b⟩) d7 n (d4 fs) (λm b=>⟨k,ac,_,N,ci m b⟩) (λm b d3=>c.dis id k _ _ f N d6 m b (ci m d3)) h a
  obtain⟨r,i,h,a⟩:=lT.Fz a;obtain⟨a0,V,M,p,n,am⟩:=vP c i;exact e0.yM y v w c x u j d (S:=[id,s]) ac c1 dl P (λm b=>⟨id,ac,_,f,b⟩) p n (by grind) (by grind) (by grind) h a
 ·rename_i id gc f6 t;split at a
  case h_2=>exact a.elim
  rename_i go gi f ce;split at a
  case h_2=>exact a.elim
  rename_i e f7;cases b:(a7 T e&&b2 e.size 1300&&e.kD) with
  |false=>rw[b] at a;exact a.elim
  |true=>
  rw[b] at a;simp only[bk] at b;obtain⟨⟨j,d⟩,cs⟩:=b;have d:=gS d;simp only[bG] at a;split at a
  ·rename_i r i;obtain⟨l,⟨an,h⟩,a⟩:=a;exact Lm y v w c x u j d cs t f ce an (vP c (by rw[i];exact bn)) h a
  ·rename_i gl gs fT i;obtain⟨⟨l,em⟩,⟨an,d8,h⟩,a⟩:=a;exact Lm y v w c x u j d cs t f ce an (vP c (by rw[i];exact⟨em,d8,bn⟩)) h a
  exact a.elim
 ·rename_i id c2 co t;split at a
  case h_2=>exact a.elim
  rename_i e l f;cases b:(a7 T e&&b2 e.size 1300) with
  |false=>rw[b] at a;exact a.elim
  |true=>
  rw[b] at a;simp only[bk] at b;obtain⟨j,d⟩:=b;have d:=gS d;simp only[bG] at a;rw[t] at q;obtain⟨O,P,fl⟩:=c.tree id _ f;generalize D:A.eval z=ds at q;cases q with|l7=>(obtain⟨r,i,h,a⟩:=lT.Fz a;obtain⟨a0,V,M,p,n,am⟩:=vP c i;exact e0.yM y v w c x u j d (S:=[id,s]) ac (xs:=[]) (f1:=[]) D ⟨bo,0,bn,.inl ⟨bn,bn,bn,bn⟩⟩ ac ac p n (by grind) (by grind) ac (by grind) (by grind))|view I ap d9 ek el=>
  rename_i m f9 f8 ad;rw[f] at I;cases I;obtain⟨aq,_,G⟩:=aW.gv.1 ap;cases aq;obtain⟨r,i,h,a⟩:=lT.Fz a;obtain⟨a0,V,M,p,n,am⟩:=vP c i;rw[G] at O;obtain⟨ft,aw,eq,ex⟩:=aev (show aS (bb F C.B) J (.osl e) _ l (H id) from O) P d9 ek el;have f4:((l.take co).drop c2).length=co-c2:=(by grind [kj.osl]);exact e0.yM y v w c x u j d (S:=[id,s]) ac D aw eq (λm b=>⟨id,ac,_,f,ex m b⟩) p n (by grind) (by grind) (by grind) h a
 ·rename_i t;split at a
  case h_2=>exact a.elim
  rename_i e f0;cases b:(a7 T e&&b2 e.size 1300) with
  |false=>rw[b] at a;exact a.elim
  |true=>
  rw[b] at a;simp only[bk] at b;obtain⟨j,d⟩:=b;have d:=gS d;simp only[bG] at a;rw[t] at q;generalize D:A.eval z=ds at q;cases q;obtain⟨r,i,h,a⟩:=lT.Fz a;obtain⟨a0,V,M,p,n,am⟩:=vP c i;exact e0.yM y v w c x u j d (S:=[s]) ac (xs:=[]) (f1:=[]) D ⟨bo,0,bn,.inl ⟨bn,bn,bn,bn⟩⟩ ac ac p n (by grind) (by grind) ac (by grind) (by grind)
 exact a.elim
end
end
section
def ia (E:fA) (C:eY) (A:bU bR) (g:aie) (st:aO) (Q:aO->Prop):Prop:=
 ∀(a:Act) (e:bC),gI C st a.tmps e->∀c:b5->Act->bC->Prop,(∀d b f,Q d->b.defers=a.defers->gI C d b.tmps f->c .normal b f)->wpOps E.P A c g a e
def kK (A:bU bR) (st:aO) (d:bR) (a:bA):Prop:=
 match d.guard with
 |none=>a=bp
 |some (c,e)=>match(A[c]?).bind (·.dst) with
  |some b=>match gt st.g b with
   |.val .bool f=>(f==e)=a
   |.dh (.tuple _)=>a=bq
   |_=>b6
  |none=>b6
section
variable {E:fA} {C:eY} {st:aO} {A:bU bR} {Q:aO->Prop}
theorem kK.ok {b:Act} (h:cN C st b.tmps f j p q) {l:bR} {g:bA} (d:kK A st l g):akS l (yielded A b.tmps)=g:=by
 unfold kK at d;unfold akS;split at d
 ·grind
 rename_i t w m;rw[m];split at d
 ·rename_i c i;split at d
  ·rename_i s e;have:=h.tmp c;rw[e] at this;generalize a:b.tmps.getD c bW=r at this;cases this with|val o=>
   obtain⟨_,rfl⟩:=o;have n:b.tmps[c]?=Y (.bool s):=by
    rw[alz] at a;cases k:b.tmps[c]? with
    |none=>rw[k] at a;cases a
    |some v=>rw[k] at a;simp only[r8] at a;rw[a];rfl
   simp only[yielded,i,aD,n];rw[<-d];grind
  ·rename_i u e;have:=h.tmp c;rw[e] at this;generalize a:b.tmps.getD c bW=r at this;cases this;subst d;simp only[yielded,i,aD];rw[alz] at a;grind
  grind
 grind
def ia.nil (b:Q st):ia E C A [] st Q:=λa e c _ d=>d st a e b bn c
def ia.op {a:bR} (p:A[b]?=Y a) (t:kK A st a bp) (i:e0 E C a st (λd=>ia E C A k d Q)):ia E C A (b::k) st Q:=by intro f v c e q;obtain⟨y,B,z,l⟩:=id c;simp only[wpOps,p];rw[t.ok l,au bn];exact .inl (i f v c _ _ (λd g w o m r=>o g w r e (λu h x j n s=>q u h x j (n.trans m) s)))
theorem ia.skip {a:bR} (r:A[i]?=Y a) (o:a.dst=Y b) (q:C.ok b) (u:kK A st a bq) (l:ia E C A k ⟨(b,.dh bW)::st.g,st.h⟩ Q):ia E C A (i::k) st Q:=by intro z x n e s;obtain⟨d,v,j,c⟩:=id n;simp only[wpOps,r];rw[u.ok c,az ac,o];exact l _ x ⟨d,v,j,c.put q (.dh bW)⟩ e (λw f y m p t=>s w f y m p t)
def gI.yZ {b:ah6} {c:bC} {st a:aO} (f:gI C st b c) (j:oS a.g st) (k:oT a.h st) (l:mn a.g a.h=bp):gI C a b c:=by obtain⟨d,m,e,i⟩:=f;exact⟨d,m,e,i.yZ j k (mn.get l)⟩
def J (E:fA) (C:eY) (e:Code) (st:aO) (Q:b5->aO->Prop):Prop:=
 ∀(a:Act) (d:bC),gI C st a.tmps d->a.defers=[]->e.wp E.P (λf b g=>∃c,Q f c/\gI C c b.tmps g/\b.defers=[]) a d
variable {R:b5->aO->Prop}
def J.aex {a:Code} (f:oS O.g st) (i:oT O.h st) (j:mn O.g O.h=bp) (c:J E C a O R):J E C a st R:=λb k d e=>c b k (d.yZ f i j) e
theorem J.region {id:X} (c:ia E C A (bI A.size) st (λa=>R .normal a)):J E C (.region id A bq) st R:=
 λb i d e=>wp_region (c b i d _ (λa _a' _w' g f h=>⟨a,g,h,f.trans e⟩))
theorem J.skip (a:R .normal st):J E C .skip st R:=λ_ _ b c=>wp_skip ⟨st,a,b,c⟩
theorem J.exit {id:X} (a:R (.exit id) st):J E C (.exit id) st R:=λ_ _ b c=>wp_exit ⟨st,a,b,c⟩
theorem J.ret (a:R .ret st):J E C .ret st R:=λ_ _ b c=>wp_ret ⟨st,a,b,c⟩
def acV (E:fA) (C:eY) (b:Code) (R:b5->aO->Prop):b5->aO->Prop
 |.normal,a=>J E C b a R
 |e,a=>R e a
def J.seq {d e:Code} (i:J E C d st (acV E C e R)):J E C (.seq d e) st R:=λf m j k=>by
 refine wp_seq (wp_mono (i f m j k) ?_);rintro h g n ⟨l,a,b,c⟩;cases h with
 |normal=>exact a g n b c
 |_=>exact⟨l,a,b,c⟩
def J.cond {a:bO} {l m:Code} {c:bA} (n:aT st.g a=.val .bool c) (p:c=bp->J E C l st R) (o:c=bq->J E C m st R):J E C (.cond a l m) st R:=by
 rintro b k ⟨f,j,h,e⟩ i;have:=e.aT a;rw[n] at this;generalize q:b.eval a=s at this;cases this with|val r=>
 obtain⟨_,rfl⟩:=r;exact wp_cond_split q (λd=>p d b k ⟨f,j,h,e⟩ i) (λd=>o d b k ⟨f,j,h,e⟩ i)
def Gx (id:X) (R:b5->aO->Prop):b5->aO->Prop
 |.exit b,a=>match bH b id with
  |true=>R .normal a
  |false=>R (.exit b) a
 |e,a=>R e a
theorem J.block {id:X} {b:Code} (f:J E C b st (Gx id R)):J E C (.block id b) st R:=λd m i j=>by
 refine wp_block (wp_mono (f d m i j) ?_);rintro e n o ⟨l,a,g,h⟩;cases e with
 |exit c=>
  simp only[Exit.inBlock];simp only[Gx] at a;by_cases k:c=id
  ·subst k;rw[aka] at a;grind
  have:bH c id=bq:=(by grind [ai0]);grind
 |_=>exact⟨l,a,g,h⟩
def jZ {a c:Type} (b:a->bv (a⊕c)):X->a->bv c
 |0,_=>bo
 |n+1,e=>match b e with
  |none=>bo
  |some (.inl f)=>jZ b n f
  |some (.inr d)=>Y d
open Classical in
def loop {σ ρ:Type} (a:σ->bv (σ⊕ρ)) (d:σ):bv ρ:=
 if h:∃c,∃b,jZ a b d=Y c then Y h.choose else bo
theorem Iv {e g:Type} {f:e->bv (e⊕g)}:∀{n b:X} {d:e} {c:g},n<=b->jZ f n d=Y c->jZ f b d=Y c
 |0,_,_,_,_,a=>by cases a
 |n+1,0,_,_,a,_=>by omega
 |n+1,b+1,d,c,h,a=>by
  simp only[jZ] at a|-;split at a
  ·cases a
  ·exact Iv aa a
  omega
theorem xF {c:N->bv (N⊕S)} {d:N} {b:S}:loop c d=Y b↔∃a,jZ c a d=Y b:=by
 unfold loop;constructor
 ·intro g;split at g
  ·grind
  grind
 rintro⟨a,f⟩;have e:∃b,∃a,jZ c a d=Y b:=⟨b,a,f⟩;rw[ajr e];obtain⟨h,j⟩:=e.choose_spec;have i:=Iv (Nat.le_max_left a h) f;grind [Iv,Nat.le_max_right]
theorem Et (c:N->bv (N⊕S)) (d:N):loop c d=match c d with
 |none=>bo
 |some (.inl f)=>loop c f
 |some (.inr e)=>Y e:=by
 apply Option.ext;intro e;rw[xF];cases i:c d with
 |none=>
  simp only[reduceCtorEq,iff_false];rintro⟨a,b⟩;cases a with
  |zero=>cases b
  |succ a=>grind [jZ]
 |some g=>
  cases g with
  |inl f=>
   simp only;rw[xF];constructor
   ·rintro⟨a,b⟩;cases a with
    |zero=>cases b
    |succ a=>grind [jZ]
   rintro⟨a,b⟩;exact⟨a+1,by grind [jZ]⟩
  |inr j=>
   simp only;constructor
   ·rintro⟨a,b⟩;cases a with
    |zero=>cases b
    |succ a=>grind [jZ]
   intro h;exact⟨1,by grind [jZ]⟩
theorem J.loop {σ ρ K:Type} {b:Code} (kU:σ->aO) {z:σ->bv (σ⊕ρ)} {s:σ} {w:ρ->bv K} {I:K} (N:(loop z s).bind w=Y I) (T:oS (kU s).g st) (U:oT (kU s).h st) (V:mn (kU s).g (kU s).h=bp) (S:∀d q,z d=Y q->(match q with|.inl _=>True|.inr G=>w G=Y I)->J E C b (kU d) (λc t=>match q with
  |.inl r=>c=.normal/\oS (kU r).g t/\oT (kU r).h t/\mn (kU r).g (kU r).h=bp
  |.inr _=>(c=.normal->b6)/\R c t)):J E C (.loop b) st R:=by
 obtain⟨G,am,bl⟩:=eO.1 N;obtain⟨p,i⟩:=xF.1 am;have ap:∀(p:X) (d:σ) (e:Act) (l:bC),jZ z p d=Y G->gI C (kU d) e.tmps l->e.defers=[]->∀(j:Frame) (w:bm Item) (k:bm Frame),
  ∃c v B,(∃t,R c t/\gI C t v.tmps B/\v.defers=[])/\Arrives E.P (lone (j.at e (.code b::.inLoop b::w)) k l) j w k c v B:=by
  intro p
  induction p with
  |zero=>intro d e l i;cases i
  |succ p an=>
   intro d e l i D F j A k;simp only[jZ] at i;cases H:z d with
   |none=>grind
   |some q=>
    rw[H] at i;have Q:=S d q H (by
     grind)
    obtain⟨c,m,u,⟨y,a,o,n⟩,f⟩:=Q e l D F j (.inLoop b::A) k;cases q with
    |inl r=>
     simp only at i a;obtain⟨rfl,aw,av,a0⟩:=a;obtain⟨M,L,a3,ad,O⟩:=an r m u i (o.yZ aw av a0) n j A k;exact⟨M,L,a3,ad,.of_steps (Steps.trans f (.one step_inLoop)) O⟩
    |inr ce=>
     obtain⟨bs,a⟩:=a;cases c with
     |normal=>grind
     |exit id=>exact⟨_,m,u,⟨y,a,o,n⟩,.pass (x:=.inLoop b) rfl (λ_ _=>.inl ac) f⟩
     |goto bx=>exact⟨_,m,u,⟨y,a,o,n⟩,.pass (x:=.inLoop b) rfl (λ_ _=>.inl ac) f⟩
     |ret=>exact⟨_,m,u,⟨y,a,o,n⟩,.pass (x:=.inLoop b) rfl (λ_ _=>.inl ac) f⟩
     |panic a4=>exact⟨_,m,u,⟨y,a,o,n⟩,.pass (x:=.inLoop b) rfl (λ_ _=>.inl ac) f⟩
     |outgrown=>exact⟨_,m,u,⟨y,a,o,n⟩,.pass (x:=.inLoop b) rfl (λ_ _=>.inl ac) f⟩
 refine J.aex T U V (λe l D F j A k=>?_);obtain⟨c,v,B,a,f⟩:=ap p s e l i D F j A k;exact⟨c,v,B,a,.of_steps (.one step_loop) f⟩
end
end
def s6:eD->eD->bA
 |.bg,_=>bp
 |.de,.de=>bp
 |.de,.bg=>bq
def xv:eD->bA
 |.de=>bp
 |.bg=>bq
def eI:ah->ah->bA
 |.int i,.int j=>if i=j then bp else bq
 |.bool,.bool|.str,.str|.nil,.nil=>bp
 |.a2 c a,.a2 d b=>s6 c d&&eI a b
 |.osl a,.a2 c b=>xv c&&eI a b
 |.ptr c a,.ptr d b=>s6 c d&&eI a b
 |.st a,.st b=>eI a b
 |.pr e f,.pr g h=>eI e g&&eI f h
 |.mp a,.fw c b=>xv c&&eI a b
 |.fw c a,.fw d b=>s6 c d&&eI a b
 |.fn k a,.fn c b=>bH k c&&eI a b
 |_,_=>bq
theorem s6.ok {f e:X->Prop} (h:∀b,j b->e b) {c d:eD} (g:s6 c d=bp) (a:bb f j c b):bb f e d b:=by
 cases c<;>cases d
 ·exact a
 ·exact .inl a
 ·cases g
 exact a.imp id (h b)
theorem xv.ok {a:eD} (b:xv a=bp):a=.de:=by cases a;cases b;rfl
theorem eI.den:∀{e b:ah},eI e b=bp->e.den=b.den:=by
 intro e
 induction e with
 |a2 f c d=>
  intro b a;cases b<;>simp only[eI] at a<;>try (cases a;done)
  grind
 |ptr f c d=>
  intro b a;cases b<;>simp only[eI] at a<;>try (cases a;done)
  grind
 |osl c d=>
  intro b a;cases b<;>simp only[eI] at a<;>try (cases a;done)
  grind
 |st c d=>
  intro b a;cases b with
  |st m=>grind [eI]
  |_=>simp only[eI] at a;cases a
 |pr g h i j=>
  intro b a;cases b<;>simp only[eI] at a<;>try (cases a;done)
  grind
 |int k=>intro b a;cases b<;>simp only[eI] at a<;>first|rfl|cases a
 |bool=>intro b a;cases b<;>simp only[eI] at a<;>first|rfl|cases a
 |str=>intro b a;cases b<;>simp only[eI] at a<;>first|rfl|cases a
 |nil=>intro b a;cases b<;>simp only[eI] at a<;>first|rfl|cases a
 |optr c _=>grind [eI]
 |eK=>grind [eI]
 |mp c d=>
  intro b a;cases b<;>simp only[eI] at a<;>try (cases a;done)
  grind
 |fw f c d=>
  intro b a;cases b<;>simp only[eI] at a<;>try (cases a;done)
  grind
 |fn l c d=>
  intro b a;cases b<;>simp only[eI] at a<;>try (cases a;done)
  grind
theorem eI.size:∀{c b:ah},eI c b=bp->c.size=b.size:=by
 intro c
 induction c with
 |st i d=>intro b a;cases b<;>simp only[eI] at a<;>first|(simp only[ah.size];exact d a)|cases a
 |pr e f g h=>
  intro b a;cases b<;>simp only[eI] at a<;>try (cases a;done)
  simp only[bk] at a;grind [ah.size]
 |_=>intro b a;cases b<;>simp only[eI] at a<;>first|rfl|cases a
theorem Nh (k:N=S) {d:bv (bm (Z×N)×X)} {g:bv (bm (Z×S)×X)} (l:HEq d g):(d=bo/\g=bo)\/∃i a j,d=Y (i,a)/\g=Y (j,a)/\∀e:bm (Z×X×N),km e i a->∃f:bm (Z×X×S),km f j a/\f.length=e.length/\∀(h:X) (c:Z×X×S),f[h]?=Y c->∃b:Z×X×N,e[h]?=Y b/\b.1=c.1/\b.2.1=c.2.1/\HEq b.2.2 c.2.2:=by
 subst k;cases l;cases d with
 |none=>grind
 |some m=>grind
theorem eI.cW {a b:ah} (d:eI a b=bp) (c:ah8):cW b c=jg.cW a c:=by cases a<;>cases b<;>simp only[eI] at d<;>first|rfl|cases d
theorem Ng (f:S=N) {a:bm S} {b:bm N} (g:HEq a b):b.length=a.length/\∀(e:X) (d:N),b[e]?=Y d->∃c,a[e]?=Y c/\HEq c d:=by subst f;grind
theorem V8 (e:N=S) {a:bv N} {c:bv S} (f:HEq a c):(a=bo/\c=bo)\/∃b d,a=Y b/\c=Y d/\HEq b d:=by
 subst e;cases f;cases a with
 |none=>grind
 |some b=>grind
theorem V9 {c d:Type} (e:N=c) (f:S=d) {a:N×S} {b:c×d} (g:HEq a b):HEq a.1 b.1/\HEq a.2 b.2:=by grind
theorem aS.de {E D:X->Prop} (N:∀d,D d->j d):∀{r υ:ah} {e:ah8} {x:r.den} {y:υ.den} {g:aie},eI r υ=bp->HEq x y->aS (bb E D) f r e x g->(∀d∈g,j d)->aS (bb E j) f υ e y []:=by
 intro r
 induction r with
 |int cs=>
  intro υ e x y g a c b _;cases υ<;>simp only[eI] at a<;>try (cases a;done)
  split at a
  ·rename_i K;subst K;cases c;exact⟨bn,b.2⟩
  grind
 |bool=>intro υ e x y g a c b _;cases υ<;>simp only[eI] at a<;>first|(cases a;done)|(cases c;exact⟨bn,b.2⟩)
 |str=>intro υ e x y g a c b _;cases υ<;>simp only[eI] at a<;>first|(cases a;done)|(cases c;exact⟨bn,b.2⟩)
 |nil=>intro υ e x y g a c b _;cases υ<;>simp only[eI] at a<;>first|(cases a;done)|(cases c;exact⟨bn,b.2⟩)
 |optr l _=>grind [eI]
 |eK=>grind [eI]
 |mp l k=>
  intro υ e x y g a c b h;cases υ<;>simp only[eI] at a<;>try (cases a;done)
  simp only[bk] at a;obtain rfl:=xv.ok a.1;rcases Nh (eI.den a.2) c with⟨rfl,rfl⟩|⟨R,G,S,rfl,rfl,i⟩
  ·exact⟨bn,b.2⟩
  obtain⟨d,v,s,aw,n,z,q,C,U⟩:=b;obtain⟨t,A,p,i⟩:=i s z;refine⟨d,v,t,aw,bn,A,.inr (h d (by grind)),q,aa,λm T P=>?_⟩;grind [eI.size,eI.cW]
 |fw B l k=>
  intro υ e x y g a c b h;cases υ<;>simp only[eI] at a<;>try (cases a;done)
  simp only[bk] at a;rcases Nh (eI.den a.2) c with⟨rfl,rfl⟩|⟨R,G,S,rfl,rfl,i⟩
  ·exact⟨bn,b.2⟩
  obtain⟨d,v,s,aw,n,z,O,q,C,U⟩:=b;obtain⟨t,A,p,i⟩:=i s z;refine⟨d,v,t,aw,bn,A,s6.ok N a.1 O,q,aa,λm T P=>?_⟩;grind [eI.size,eI.cW]
 |fn cv l k=>
  intro υ e x y g a c b h;cases υ<;>simp only[eI] at a<;>try (cases a;done)
  rename_i B o;simp only[bk] at a;obtain rfl:=fu a.1;obtain⟨_,V,aw,n⟩:=b;exact⟨bn,V,aw,k (υ:=o) (x:=x) (y:=y) a.2 c n ac⟩
 |st l k=>
  intro υ e x y g a c b h;cases υ with
  |st o=>exact k (υ:=o) (x:=x) (y:=y) (by grind [eI]) c b h
  |_=>simp only[eI] at a;cases a
 |pr J d ci co=>
  intro υ e x y g a c b h;cases υ<;>simp only[eI] at a<;>try (cases a;done)
  rename_i G an;simp only[bk] at a;obtain⟨bl,f2,rfl,w,M⟩:=b;obtain⟨aq,a4⟩:=V9 (eI.den a.1) (eI.den a.2) c;have ce:=eI.size a.1;exact⟨[],[],bn,by grind,by grind⟩
 |a2 B l k=>
  intro υ e x y g a c b h;obtain⟨rfl,F,u,rfl,aw,n,q⟩:=b;cases υ<;>simp only[eI] at a<;>try (cases a;done)
  rename_i H o;simp only[bk] at a;obtain⟨p,i⟩:=Ng (eI.den a.2) c;refine⟨bn,F,u,by rw[p],aa,n,?_⟩;grind [s6.ok,eI.size,List.eq_nil_of_length_eq_zero]
 |osl l k=>
  intro υ e x y g a c b h;cases υ<;>simp only[eI] at a<;>try (cases a;done)
  rename_i H o;simp only[bk] at a;obtain rfl:=xv.ok a.1;obtain⟨F,u,rfl,b⟩:=b;obtain⟨p,i⟩:=Ng (eI.den a.2) c;rcases b with⟨rfl,rfl,rfl,rfl⟩|⟨d,I,L,rfl,rfl,aw,n,q,C⟩
  ·obtain rfl:y=[]:=qA aa;exact⟨bn,bo,0,bn,bc _,λ_=>rfl,.inl bn⟩
  refine⟨bn,Y ⟨d,I,bo⟩,u,by rw[p],aa,(λa=>by cases a),.inr ⟨d,I,bn,.inr (h d ac),λm ad Q=>?_⟩⟩;obtain⟨am,w,M⟩:=i m ad Q;have bx:m<x.length:=(hH.1 w).1;obtain⟨a3,ap,av,a0⟩:=C m am (L[m]'(by omega)) w ac
  grind [akA,ajE,b7,eI.size]
 |ptr B l k=>
  intro υ e x y g a c b h;obtain⟨rfl,b⟩:=b;cases υ<;>simp only[eI] at a<;>try (cases a;done)
  rename_i H o;simp only[bk] at a;refine⟨bn,?_⟩;rcases V8 (eI.den a.2) c with⟨rfl,rfl⟩|⟨J,d,rfl,rfl,bs⟩
  ·exact b
  grind [s6.ok,eI.size]
inductive n2:(τ:ah)->τ.den->(υ:ah)->υ.den->Prop
 |same {τ υ:ah} {x:τ.den} {y:υ.den} (h:eI τ υ=bp) (V7:HEq x y):n2 τ x υ y
 |ptr {t u:ah} {x:t.den} {y:u.den} (h:eI t u=bp) (V7:HEq x y):n2 (.optr t) x (.ptr .de u) (Y y)
theorem n2.rep {h B:X->Prop} (i:∀a,B a->j a) {m:d.den} {n:r.den} (b:n2 d m r n) (l:aS (bb h B) f d g m k) (e:∀a∈k,j a):aS (bb h j) f r g n []:=by
 cases b with
 |same b c=>exact l.de i b c e
 |ptr b c=>
  obtain⟨a,q,u,p,rfl,rfl,aw,s,w,t⟩:=l;exact⟨bn,a,q,p,bn,.inr (e a ac),by grind [eI.size],s,t.de i b c (λo v=>e o (by grind))⟩
def n2.st {c:d.den} {e:r.den} (a:n2 d c r e) (b:ah8):cW d b=cW r b:=by
 cases a with
 |same a _=>cases d<;>cases r<;>first|rfl|(simp only[eI] at a;cases a;done)
 |ptr a _=>rfl
section
def mg {c d e:Type} (b:c->d->e->Prop):bm c->bm d->bm e->Prop
 |[],[],[]=>True
 |a::as,f::g,h::i=>b a f h/\mg b as g i
 |_,_,_=>b6
def iv {c d:Type} (b:c->d->Prop):bm c->bm d->Prop
 |[],[]=>True
 |a::as,e::f=>b a e/\iv b as f
 |_,_=>b6
theorem La {d e:Type} {f:d->e->Prop}:∀{as:bm d} {c:bm e},iv f as c->c.length=as.length
 |[],[],_=>rfl
 |[],_::_,b=>b.elim
 |_::_,[],b=>b.elim
 |a::as,g::c,b=>by have:=La b.2;grind
def Gh {e f:Type} {c:e->f->Prop}:∀{as:bm e} {d:bm f} {g:bm e} {h:bm f},iv c as d->iv c g h->iv c (as++g) (d++h)
 |[],[],_,_,_,b=>b
 |[],_::_,_,_,b,_=>b.elim
 |_::_,[],_,_,b,_=>b.elim
 |a::as,j::d,_,_,b,i=>⟨b.1,Gh b.2 i⟩
theorem yJ {h i:Type} {f:h->i->Prop}:∀{as:bm h} {c:bm i},as.length=c.length->(∀(e:X) a b,as[e]?=Y a->c[e]?=Y b->f a b)->iv f as c
 |[],[],_,_=>trivial
 |[],_::_,d,_=>by cases d
 |_::_,[],d,_=>by cases d
 |a::as,b::c,d,g=>⟨g 0 a b bn rfl,yJ (by grind) (λe j k l m=>g (e+1) j k (by grind) (by grind))⟩
def Gi {b g h:Type} {c:g->h->Prop} {d:b->g} {e:b->h} (f:∀x,c (d x) (e x)):∀a:bm b,iv c (a.map d) (a.map e)
 |[]=>trivial
 |x::a=>⟨f x,Gi f a⟩
inductive hG where
 |v (t:aG)
 |m (t:aG) (y:t.1.den)
 |o (t:aG)
 |c (f:X) (afd:bm aG)
 |n
 |s (f:X) (l:aie)
 |w (σ:ah) (xs:bm σ.den) (lo hi:X) (ys:bm σ.den)
def yl (I c:X->Prop) (w:bC) (a:aG) (d:Value):Prop:=∃b,d=cW a.1 b/\aS (bb I c) w a.1 b a.2 []
def yi (I f:X->Prop) (w:bC):hG->Value->aie->Prop
 |.v b,d,a=>a=[]/\∃e,d=cW b.1 e/\aS (bb I f) w b.1 e b.2 []
 |.m b _,d,a=>∃e,d=cW b.1 e/\aS (bb I f) w b.1 e b.2 a
 |.o b,d,a=>∃e,d=cW b.1 e/\aS (bb I f) w b.1 e b.2 a
 |.n,d,a=>a=[]/\d=.slice bo 0 0
 |.s _ _,_,a=>a=[]
 |.w q h g j _,d,a=>∃k l i,d=.slice (Y ⟨k,l+g*q.size,bo⟩) (j-g) (i-g)/\(g<j/\j<=h.length/\h.length<=i)/\aS (bb I f) w (.osl q) [.slice (Y ⟨k,l,bo⟩) h.length i] h a
 |.c r t,d,a=>a=[]/\∃p:ah8,d=.func (.func r) #[] p.toArray/\iv (yl I f w) t p
def pb:X->bm hG->bv ec
 |_,[]=>bo
 |k,.s a b::_=>Y (k,a,b)
 |k,_::c=>pb (k+1) c
def KX (w:bC) (b:ah8) (i:ev):bv ec->Prop
 |none=>True
 |some (d,h,e)=>d<b.length/\(∀c∈e,c<b.length)/\∃a f g,b.getD d bW=.pointer (Y ⟨a,f,bo⟩)/\a<w.heap.size/\a∉i.flatten/\w.cell? ⟨a,f,bo⟩=Y (.func (.func h) #[] g)/\g.toList=e.map λc=>b.getD c bW
def yj (I e:X->Prop) (w:bC):hG->Value->aie->Prop
 |.m i n,d,a=>∃g,d=cW i.1 g/\aS (bb I e) w i.1 g n a
 |.w j l b k o,d,a=>∃f h c,d=.slice (Y ⟨f,h+b*j.size,bo⟩) (k-b) (c-b)/\b<c/\aS (bb I e) w (.osl j) [.slice (Y ⟨f,h,bo⟩) l.length c] o a
 |_,_,a=>a=[]
def BB (I:X->Prop) (w:bC) (a:aG) (d:Value) (c:aie):Prop:=∃b,d=cW a.1 b/\aS (bb I (λ_=>b6)) w a.1 b a.2 c
def qg:ah8->Value
 |[v]=>v
 |vs=>.tuple vs.toArray
structure KV (I B:X->Prop) (w:bC) (fs:ev) (args:bm hG) (vs:ah8) (res:bm aG) (I':X->Prop) (gs hs:ev) (lG:ah8) (w':bC):Prop where
 args:mg (yj I' B w') args vs gs
 res:mg (BB I' w') res lG hs
 nd:(gs.flatten++hs.flatten).Nodup
 LB:∀b∈gs.flatten++hs.flatten,¬I' b/\¬B b/\b<w'.heap.size/\(w.heap.size<=b\/b∈fs.flatten)
 i:∀b,I b->I' b
 i2:∀b,I' b->I b\/(b<w'.heap.size/\(w.heap.size<=b\/b∈fs.flatten))
 size:w.heap.size<=w'.heap.size
 os:w'.os=w.os
 tape:w'.tape=w.tape
 output:w'.output=w.output
 evo:∀b,b<w.heap.size->kL w w' b
 heap:∀b,b<w.heap.size->b∉fs.flatten->w'.heap[b]?=w.heap[b]?
def lg (E:fA) (I:X->Prop) (w:bC):Prop:=∀a∈E.glob,aS (bb I λ_=>b6) w (.a2 .bg (.int a.k)) [.slice (Y ⟨a.b,0,bo⟩) a.xs.length a.xs.length] a.xs []
theorem lg.mono {E:fA} {I I':X->Prop} {w w':bC} (g:lg E I w) (c:∀a,I a->I' a) (i:∀a,I a->w'.heap[a]?=w.heap[a]?):lg E I' w':=λf h=>
 (g f h).mono (λe a d=>by
  have b:I a:=(by cases e;exact d;exact d.elim id False.elim);exact⟨by cases e;exact c a b;exact .inl (c a b),c8.of_heap (i a b)⟩) (λa b=>by cases b)
def rU (E:fA) (h:FuncId) (e:bm hG) (k:bm aG):Prop:=
 ∀(w:bC) (I c:X->Prop) (d:ah8) (b:ev),(∀a,I a\/c a->a<w.heap.size)->mg (yi I c w) e d b->b.flatten.Nodup->(∀a∈b.flatten,¬I a/\¬c a/\a<w.heap.size)->KX w d b (pb 0 e)->lg E I w->Calls E.P h d.toArray w (λg w'=>∃I' i j f,g=.returned (qg f)/\KV I c w b e d k I' i j f w')
def ah.fW:ah->bA
 |.a2 .de _|.ptr .de _|.fw .de _=>bq
 |.a2 .bg a|.ptr .bg a|.osl a|.optr a|.st a|.mp a|.fw .bg a|.fn _ a=>a.fW
 |.pr b c=>b.fW&&c.fW
 |_=>bp
def rQ:ah->bA
 |.pr _ _|.nil|.eK=>bq
 |_=>bp
def acp (b:rQ d=bp) (c:g.length=d.size) (e:y.length=d.size) (a:cW d g=cW d y):g=y:=by
 have i:d.size=1->cW d g=g.headD bW->cW d y=y.headD bW->g=y:=(by intro h aq f;rw[h] at c e;obtain⟨k,rfl⟩:=qG.1 c;obtain⟨l,rfl⟩:=qG.1 e;rw[aq,f] at a;simpa using a);cases d with
 |st j=>have a:amu g.toArray=amu y.toArray:=a;simpa using a
 |pr=>cases b
 |nil=>cases b
 |eK=>cases b
 |_=>exact i bn rfl rfl
def yh (g:bm (X×aG)) (f:aie):ak->aG->Prop
 |.val b i,a=>n2 b i a.1 a.2
 |.dh d,a=>iJ a.1 d.cells.toList=Y a.2/\cW a.1 d.cells.toList=d
 |.ref id h,a=>eQ id f=bq/\∃c b e,ar g id=Y c/\eN c.1 c.2 h b e/\n2 b e a.1 a.2
 |_,_=>b6
mutual
inductive oG (h:bm (X×aG)) (S:aie):ak->(τ:ah)->τ.den->Prop
 |base {a:ak} {τ:ah} {x:τ.den} (H0:yh h S a ⟨τ,x⟩):oG h S a τ x
 |hz {a:ak} {τ:ah} {x:τ.den} (hv:oD τ=bp) (H0:oG h S a τ x):oG h S (.hz a) (.ptr .bg τ) (Y x)
 |eB {n:X} {l:bm ak} {τ:ah} {x:τ.den} (Ed:vW h S l τ x):oG h S (.eB n l) (.fn n τ) x
inductive vW (h:bm (X×aG)) (S:aie):bm ak->(τ:ah)->τ.den->Prop
 |nil:vW h S [] .nil ()
 |cons {a:ak} {l:bm ak} {τ υ:ah} {x:τ.den} {y:υ.den} (hv:oD τ=bp) (H0:oG h S a τ x) (Ed:vW h S l υ y):vW h S (a::l) (.pr τ υ) (x,y)
end
def RM (b:bm (X×aG)) (f:aie):ak->hG->Prop
 |av,.v a=>yh b f av a
 |.ref id [],.m a _=>ar b id=Y a/\a.1.fW=bp/\rQ a.1=bp
 |.ref id [],.o a=>ar b id=Y a
 |.eB p d,.c l q=>p=l/\iv (λj a=>oG b f j a.1 a.2) d q
 |.dh e,.o a=>e=.slice bo 0 0/\∃t,a=⟨.osl t,[]⟩
 |.dh e,.n=>e=.slice bo 0 0
 |.view id [] h g,.w i r d k _=>ar b id=Y ⟨.osl i,r⟩/\(d=h/\k=g)/\h<g/\i.fW=bp
 |_,.s _ _=>True
 |_,_=>b6
def oF (c:bm (X×aG)) (b:aie):bm ak->bm hG->Prop
 |[],[]=>True
 |a::as,d::e=>RM c b a d/\oF c b as e
 |_,_=>b6
def gn:bm ak->bm hG->aie
 |.ref id []::as,.m _ _::a=>id::gn as a
 |.ref id []::as,.o _::a=>id::gn as a
 |.view id [] _ _::as,.w _ _ _ _ _::a=>id::gn as a
 |_::as,_::a=>gn as a
 |_,_=>[]
def mr:bm ak->bm hG->aie
 |.ref id []::as,.m _ _::a=>id::mr as a
 |.view id [] _ _::as,.w _ _ _ _ _::a=>id::mr as a
 |_::as,_::a=>mr as a
 |_,_=>[]
def j0:bm ak->bm hG->bm (X×aG)
 |.ref id []::as,.m b c::a=>(id,⟨b.1,c⟩)::j0 as a
 |.view id [] _ _::as,.w e _ _ _ d::a=>(id,⟨.osl e,d⟩)::j0 as a
 |_::as,_::a=>j0 as a
 |_,_=>[]
def rH (a:X) (c:bA) (b:X):X:=bif c then a else 1000*(a+1)+b
def vz (b:X) (c:bA):X->bm aG->bm ak
 |_,[]=>[]
 |j,a::d=>(bif a.1.pure then .val a.1 a.2 else .ref (rH b c j) [])::vz b c (j+1) d
def iU (a:X) (b:bA):X->bm aG->bm (X×aG)
 |_,[]=>[]
 |j,d::c=>bif d.1.pure then iU a b (j+1) c else(rH a b j,d)::iU a b (j+1) c
def vy (a:X):bm aG->ak
 |[t]=>bif t.1.pure then .val t.1 t.2 else .ref a []
 |l=>.fe (vz a bq 0 l)
def iR:bm aG->bA
 |[_]=>bp
 |_=>bq
def jr:aie->bA
 |[]=>bp
 |a::b=>!(eQ a b)&&jr b
theorem jr.ok:∀{c:aie},jr c=bp->c.Nodup
 |[],_=>List.nodup_nil
 |a::e,b=>by simp only[jr,bk,tE] at b;exact kk.2 ⟨(λd=>by rw[ha.2 d] at b;cases b.1),jr.ok b.2⟩
def TM (c:X) (st:aO) (b:bm ak) (a:bm hG) (d:bm aG):aO:=
 ⟨(c,vy c d)::kill (gn b a) (xx (mr b a)) st.g,(j0 b a++iU c (iR d) 0 d)++del (gn b a) st.h⟩
theorem aS.fW {I G B':X->Prop} {w:bC}:∀{τ:ah} {f:ah8} {b:τ.den} {g:aie},τ.fW=bp->aS (bb I G) w τ f b g->aS (bb I B') w τ f b g:=by
 intro τ
 induction τ with
 |a2 o m h=>
  intro f b g c a;cases o
  ·obtain⟨j,r,s,aw,d,k,l⟩:=a;refine⟨j,r,s,aw,d,k,l.imp id ?_⟩;rintro⟨e,i,N,v,P⟩;refine⟨e,i,N,v,λp D F=>?_⟩;obtain⟨n,H,J,K⟩:=P p D F;exact⟨n,H,J,h (by simpa only[ah.fW] using c) K⟩
  grind [ah.fW]
 |ptr o m h=>
  intro f b g c a;cases o
  ·obtain⟨j,aw⟩:=a;refine⟨j,?_⟩;cases b with
   |none=>exact aw
   |some D=>
    obtain⟨e,i,n,z,A,B,aJ,C⟩:=aw;exact⟨e,i,n,z,A,B,aJ,h (by grind [ah.fW]) C⟩
  grind [ah.fW]
 |osl m h=>
  intro f b g c a;obtain⟨r,s,aw,d⟩:=a;refine⟨r,s,aw,d.imp id ?_⟩;rintro⟨e,i,M,z,A,B,aJ,C,am⟩;refine⟨e,i,M,z,A,B,aJ,C,λp D E F V=>?_⟩;grind [ah.fW]
 |optr m h=>
  intro f b g c a;obtain⟨e,i,E,n,aw,d,k,l,y,S⟩:=a;exact⟨e,i,E,n,aw,d,k,l,y,h (by grind [ah.fW]) S⟩
 |st m h=>intro f b g c a;exact h (by grind [ah.fW]) a
 |mp m h=>
  intro f b g c a;cases b with
  |none=>exact a
  |some x=>
   obtain⟨e,t,q,aw,d,u,k,l,y⟩:=a;refine⟨e,t,q,aw,d,u,k,l,λp x O=>?_⟩;grind [ah.fW]
 |fw o m h=>
  intro f b g c a;cases o
  ·cases b with
   |none=>exact a
   |some x=>
    obtain⟨e,t,q,aw,d,u,v,k,l,y⟩:=a;refine⟨e,t,q,aw,d,u,v,k,l,λp x O=>?_⟩;grind [ah.fW]
  grind [ah.fW]
 |fn ad m h=>
  intro f b g c a;obtain⟨j,T,aw,d⟩:=a;exact⟨j,T,aw,h (by simpa only[ah.fW] using c) d⟩
 |pr U e Q R=>
  intro f b g c a;simp only[ah.fW,bk] at c;obtain⟨L,f2,j,aw,d⟩:=a;exact⟨L,f2,j,Q c.1 aw,R c.2 d⟩
 |_=>intro f b g c a;exact a
theorem NW {e f:Type} (c:e->f):∀(b:bm (X×e)) (a:X),ar (b.map λd=>(d.1,c d.2)) a=(ar b a).map c
 |[],_=>rfl
 |(g,v)::b,a=>by rw[h8,ey,ey,NW c b a];grind
abbrev By:=aG×ah8×aie
def g4 (rt:X->ah8):bm ak->bm hG->ev->bm (X×By)
 |.ref id []::as,.m d e::a,c::b=>(id,(⟨d.1,e⟩,rt id,c))::g4 rt as a b
 |.view id [] _ _::as,.w g _ _ _ f::a,c::b=>(id,(⟨.osl g,f⟩,rt id,c))::g4 rt as a b
 |_::as,_::a,_::b=>g4 rt as a b
 |_,_,_=>[]
def k3 (a:X) (b:bA):X->bm aG->er->ev->bm (X×By)
 |j,f::e,g::c,h::d=>bif f.1.pure then k3 a b (j+1) e c d else(rH a b j,(f,g,h))::k3 a b (j+1) e c d
 |_,_,_,_=>[]
theorem PF {rt:X->ah8}:∀{as:bm ak} {bs:bm hG} {gs:ev},gs.length=bs.length->(g4 rt as bs gs).map (λf=>(f.1,f.2.1))=j0 as bs
 |[],bs,gs,_=>by cases bs<;>cases gs<;>rfl
 |a::as,[],gs,e=>by cases gs with
  |nil=>cases a<;>first|rfl|(rename_i id b;cases b<;>rfl)|(rename_i id b h g;cases b<;>rfl)
  |cons=>cases e
 |a::as,c::bs,[],e=>by cases e
 |a::as,c::bs,i::gs,e=>by
  have d:=PF (rt:=rt) (as:=as) (bs:=bs) (gs:=gs) (by grind);cases a with
  |ref id b=>cases b with
   |nil=>cases c<;>simp only[g4,j0,h8,d]
   |cons=>cases c<;>simp only[g4,j0,d]
  |view id b h g=>cases b with
   |nil=>cases c<;>simp only[g4,j0,h8,d]
   |cons=>cases c<;>simp only[g4,j0,d]
  |_=>cases c<;>simp only[g4,j0,d]
theorem Fg {d:X} {s:bA}:∀{j:X} {res:bm aG} {cs:er} {hs:ev},cs.length=res.length->hs.length=res.length->(k3 d s j res cs hs).map (λe=>(e.1,e.2.1))=iU d s j res
 |j,[],cs,hs,a,b=>by cases cs<;>cases hs<;>simp[k3,iU]
 |j,f::c,[],hs,a,b=>by cases a
 |j,f::c,g::cs,[],a,b=>by cases b
 |j,f::c,g::cs,h::hs,a,b=>by have i:=Fg (d:=d) (s:=s) (j:=j+1) (res:=c) (cs:=cs) (hs:=hs) (by grind) (by grind);simp only[k3,iU];grind
section
variable {C:eY} {st:aO} {A:ah6} {w w':bC} {I I' B':X->Prop} {rt:X->ah8} {fp:X->aie}
theorem PG (D:cN C st A w I rt fp) {S:aie}:∀{avs:bm ak} {t:ah8} {args:bm hG} {gs:ev},iv (cP (bb I C.B) w st.h rt fp) avs t->oF st.h S avs args->mg (yj I' B' w') args t gs->∀a∈g4 rt avs args gs,aS (bb I' C.B) w' a.2.1.1 a.2.2.1 a.2.1.2 a.2.2.2/\a.2.2.1=rt a.1/\a.1∈gn avs args/\∃g,ar st.h a.1=Y g/\a.2.1.1=g.1
 |[],t,args,gs,l,p,q,a,b=>by cases args<;>cases gs<;>cases b
 |x::i,t,[],gs,l,p,q,a,b=>by cases x<;>exact p.elim
 |x::i,[],d::u,gs,l,p,q,a,b=>l.elim
 |x::i,v::t,d::u,[],l,p,q,a,b=>q.elim
 |av::i,v::t,d::u,ad::gs,l,p,q,a,b=>by
  obtain⟨M,am⟩:=l;obtain⟨J,an⟩:=p;obtain⟨K,ap⟩:=q;have a0:=PG D (S:=S) (avs:=i) (args:=u) (gs:=gs) am an ap;have e:a∈g4 rt i u gs->aS (bb I' C.B) w' a.2.1.1 a.2.2.1 a.2.1.2 a.2.2.2/\a.2.2.1=rt a.1/\a.1∈gn (av::i) (d::u)/\∃g,ar st.h a.1=Y g/\a.2.1.1=g.1:=by
   intro b;obtain⟨aw,P,r,G⟩:=a0 a b;refine⟨aw,P,?_,G⟩;cases av with
   |ref id f=>cases f<;>cases d<;>simp only[gn]<;>first|exact hW _ r|exact r
   |view id f O L=>cases f<;>cases d<;>simp only[gn]<;>first|exact hW _ r|exact r
   |_=>cases d<;>exact r
  cases av with
  |ref id f=>
   cases f with
   |cons s f=>exact e (by cases d<;>exact b)
   |nil=>
    cases d with
    |v g=>exact e b
    |o g=>exact e b
    |c n d1=>exact e b
    |n=>exact e b
    |s cs a3=>exact e b
    |w bs i O L Q=>exact e b
    |m g d2=>
     simp only[g4,fR] at b;rcases b with rfl|b
     ·obtain⟨j,N,F⟩:=J;obtain⟨ci,k,z⟩:=K;cases M with|ref y E=>
      rw[j] at y;cases y;obtain⟨rfl,rfl,rfl⟩:=aW.gv.1 E;have:=acp F (D.tree id _ j).1.len z.len k;subst this;exact⟨z.fW N,bn,by simp[gn],g,j,bn⟩
     grind
  |view id f O L=>
   cases f with
   |cons s f=>exact e (by cases d<;>exact b)
   |nil=>
    cases d with
    |w bs i a3 k Q=>
     simp only[g4,fR] at b;rcases b with rfl|b
     ·obtain⟨j,⟨rfl,rfl⟩,N,F⟩:=J;obtain⟨d,o,T,k,cv,z⟩:=K;cases M with
      |l7=>omega
      |view y E aw P r=>
      rename_i d0 d3 c1 R bl a4 U;rw[j] at y;cases y;obtain⟨aq,co,V⟩:=aW.gv.1 E;simp only[ah.osl.injEq] at aq;subst aq;obtain⟨bx,ce,G,_⟩:=(D.tree id _ j).1;have H:rt id=[.slice (Y ⟨R,bl,bo⟩) a4 U]:=V;rw[G] at H;simp only[hN,aio,b9] at H;rw[az aa] at k;simp only[aio,eS,aiD,b9] at k;obtain⟨⟨c2,dl⟩,ds,aJ⟩:=k;have:rt id=[.slice (Y ⟨d,o,bo⟩) i.length T]:=(by grind);refine⟨?_,bn,by simp[gn],_,j,bn⟩;show aS (bb I' C.B) w' (.osl _) (rt id) Q ad;rw[this];exact z.fW F
     grind
    |_=>exact e b
  |_=>exact e (by cases d<;>exact b)
theorem PE {x:aie}:∀{as:bm ak} {r:bm hG} {g:ah8} {e:ev},oF st.h x as r->mg (yj I' B' w') r g e->((g4 rt as r e).map (λz=>z.2.2.2)).flatten=e.flatten
 |[],[],g,e,f,d=>by cases g<;>cases e<;>first|rfl|exact d.elim
 |[],q::t,g,e,f,d=>f.elim
 |a::as,[],g,e,f,d=>by cases a<;>exact f.elim
 |a::as,q::t,[],e,f,d=>d.elim
 |a::as,q::t,v::g,[],f,d=>d.elim
 |a::as,q::t,v::g,k::e,f,d=>by
  have y:=PE (as:=as) f.2 d.2;have l:=f.1;have p:=d.1;rw[lQ,<-y];cases q with
  |m u F=>
   cases a with
   |ref id b=>cases b with
    |nil=>grind [ajt,g4]
    |cons=>exact l.elim
   |_=>exact l.elim
  |w H E C B G=>
   cases a with
   |view id b i j=>cases b with
    |nil=>grind [ajt,g4]
    |cons=>exact l.elim
   |ref id b=>cases b<;>exact l.elim
   |_=>exact l.elim
  |v u=>
   have:k=[]:=p;subst this;cases a with
   |ref id b=>grind [g4]
   |view id b i j=>grind [g4]
   |_=>simp only[g4,ir]
  |o u=>
   have:k=[]:=p;subst this;cases a with
   |ref id b=>grind [g4]
   |view id b i j=>grind [g4]
   |_=>simp only[g4,ir]
  |n=>
   have:k=[]:=p;subst this;cases a with
   |ref id b=>grind [g4]
   |view id b i j=>grind [g4]
   |_=>simp only[g4,ir]
  |s A i=>
   have:k=[]:=p;subst this;cases a with
   |ref id b=>grind [g4]
   |view id b i j=>grind [g4]
   |_=>simp only[g4,ir]
  |c n D=>
   have:k=[]:=p;subst this;cases a with
   |ref id b=>grind [g4]
   |view id b i j=>grind [g4]
   |_=>simp only[g4,ir]
theorem Qc {I:X->Prop}:∀{f:bm aG} {c:ah8} {b:ev},mg (BB I w) f c b->∃h:er,h.length=f.length/\b.length=f.length/\c.length=f.length/\∀(e:X) (t:aG) (d:ah8) (a:aie) (g:Value),f[e]?=Y t->h[e]?=Y d->b[e]?=Y a->c[e]?=Y g->g=cW t.1 d/\aS (bb I (λ_=>b6)) w t.1 d t.2 a
 |[],c,b,a=>by cases c<;>cases b<;>first|exact⟨[],bn,bn,bn,λe t d a g r=>by grind⟩|exact a.elim
 |t::i,[],b,a=>a.elim
 |t::i,g::c,[],a=>a.elim
 |t::i,g::c,p::b,a=>by obtain⟨⟨d,l,u⟩,j⟩:=a;obtain⟨h,v,x,y,s⟩:=Qc j;refine⟨d::h,by grind,by grind,by grind,λe z k q A aq m n o=>?_⟩;grind
theorem Qe {m:X} {n:bA}:∀{j:X} {i:bm aG} {c:er} {d:ev},c.length=i.length->d.length=i.length->∀a∈k3 m n j i c d,∃e:X,i[e]?=Y a.2.1/\c[e]?=Y a.2.2.1/\d[e]?=Y a.2.2.2
 |j,[],c,d,f,g,a,b=>by cases c<;>cases d<;>simp[k3] at b
 |j,k::h,[],d,f,g,a,b=>by cases f
 |j,k::h,l::c,[],f,g,a,b=>by cases g
 |j,k::h,l::c,q::d,f,g,a,b=>by
  simp only[k3] at b;have s:a∈k3 m n (j+1) h c d->∃e,(k::h)[e]?=Y a.2.1/\(l::c)[e]?=Y a.2.2.1/\(q::d)[e]?=Y a.2.2.2:=λb=>(by obtain⟨e,aq,o,p⟩:=Qe (by grind) (by grind) a b;exact⟨e+1,by rw[v9];exact aq,by rw[v9];exact o,by rw[v9];exact p⟩);cases r:k.1.pure
  ·rw[r] at b;simp only[bP,fR] at b;rcases b with rfl|b
   ·exact⟨0,bn,bn,bn⟩
   grind
  grind
theorem Qd {d:X} {s:bA}:∀{j:X} {res:bm aG} {cs:er} {hs:ev},((k3 d s j res cs hs).map (λe=>e.2.2.2)).flatten.Sublist hs.flatten
 |j,[],cs,hs=>by simp[k3]
 |j,b::a,[],hs=>by simp[k3]
 |j,b::a,c::cs,[]=>by simp[k3]
 |j,b::a,c::cs,f::hs=>by have g:=Qd (d:=d) (s:=s) (j:=j+1) (res:=a) (cs:=cs) (hs:=hs);simp only[k3];grind
theorem Lq (n:cN C st A w I rt fp) (f:∀a,C.B a->B' a) (m:∀id P,ar st.h id=Y P->eQ id k=bq->∀a∈fp id,B' a) (c:cP (bb I C.B) w st.h rt fp V R) (b:yh st.h k V P):∃e,R=cW P.1 e/\aS (bb I B') w P.1 e P.2 []:=by
 cases V with
 |val l j=>
  have b:n2 l j P.1 P.2:=b;cases c with|val u=>
  exact⟨_,b.st _,b.rep f u ac⟩
 |dh D=>
  obtain⟨aw,y⟩:=b;cases c;grind [pS]
 |ref id x=>
  obtain⟨o,z,l,j,d,t,i⟩:=b;cases c with|ref g r=>
  rw[d] at g;cases g;obtain⟨rfl,v,s,_,q⟩:=n.kW d t r;exact⟨_,i.st _,i.rep f s (λa p=>m id _ d o a (q a p))⟩
 |_=>exact b.elim
mutual
theorem GA (j:cN C st A w I rt fp) {m:aie} (g:∀a,C.B a->B' a) (i:∀id J,ar st.h id=Y J->eQ id m=bq->∀a∈fp id,B' a):∀{n:ak} {d:ah} {u:d.den},oG st.h m n d u->∀{t:Value},cP (bb I C.B) w st.h rt fp n t->∃e,t=cW d e/\aS (bb I B') w d e u []
 |_,_,_,.base k,_,b=>Lq j g i b k
 |_,_,_,.hz G k,_,b=>by
  cases b with|hz E F K f=>
  rename_i l a;obtain⟨e,aq,p⟩:=GA j g i k f;obtain⟨o,y⟩:=o0.one G;have c:=p.len;rw[o] at c;obtain⟨x,rfl⟩:=qG.1 c;rw[y] at aq;have aq:l=x:=aq;subst aq;have D:fq w a 0 [l]:=λr M q=>by
   cases r with
   |zero=>cases q;exact F
   |succ r=>cases q
  exact⟨[.pointer (Y ⟨a,0,bo⟩)],bn,bn,a,0,[l],bn,E,o.symm,D,p⟩
 |_,_,_,.eB c,_,b=>by
  cases b with|eB z f=>
  rename_i s;exact⟨[.func (.func _) #[] s],bn,bn,s.toList,bn,LJ j g i c (yJ (by simpa using z) (λH v a aw L=>f H v a aw (by grind)))⟩
theorem LJ (k:cN C st A w I rt fp) {f:aie} (i:∀b,C.B b->B' b) (j:∀id x,ar st.h id=Y x->eQ id f=bq->∀b∈fp id,B' b):∀{m:bm ak} {e:ah} {n:e.den},vW st.h f m e n->∀{a:ah8},iv (cP (bb I C.B) w st.h rt fp) m a->aS (bb I B') w e a n []
 |_,_,_,.nil,a,c=>by
  cases a with
  |nil=>exact⟨bn,bn⟩
  |cons=>exact c.elim
 |_,_,_,.cons v t u,a,c=>by
  cases a with
  |nil=>exact c.elim
  |cons y a=>
   obtain⟨q,r⟩:=c;obtain⟨z,aq,g⟩:=GA k i j t q;have s:=LJ k i j u r;obtain⟨d,p⟩:=o0.one v;have l:=g.len;rw[d] at l;obtain⟨o,rfl⟩:=qG.1 l;rw[p] at aq;have aq:y=o:=aq;subst aq;exact⟨[],[],bn,by rw[d];exact g,by rw[d];exact s⟩
end
def LO (j:cN C st A w I rt fp) {d:aie} (g:∀b,C.B b->B' b) (i:∀id c,ar st.h id=Y c->eQ id d=bq->∀b∈fp id,B' b):∀{e:bm ak} {l:ah8} {k:bm aG},iv (cP (bb I C.B) w st.h rt fp) e l->iv (λm c=>oG st.h d m c.1 c.2) e k->iv (yl I B' w) k l
 |[],[],[],_,_=>trivial
 |[],_::_,_,a,_=>a.elim
 |_::_,[],_,a,_=>a.elim
 |[],_,_::_,_,a=>a.elim
 |_::_,_,[],_,a=>a.elim
 |_::_,_::_,_::_,a,f=>⟨GA j g i f.1 a.1,LO j g i a.2 f.2⟩
theorem Ls (r:cN C st A w I rt fp) {S:aie} (E:∀d,C.B d->B' d) (H:∀id q,ar st.h id=Y q->eQ id S=bq->∀d∈fp id,B' d):∀{F:bm ak} {t:ah8} {args:bm hG},iv (cP (bb I C.B) w st.h rt fp) F t->oF st.h S F args->∃e,mg (yi I B' w) args t e/\e.flatten=((gn F args).map fp).flatten
 |[],t,args,i,g=>by cases args with
  |nil=>cases t with
   |nil=>exact⟨[],trivial,bn⟩
   |cons=>exact i.elim
  |cons=>exact g.elim
 |x::l,t,[],i,g=>by cases x<;>exact g.elim
 |x::l,[],d::u,i,g=>i.elim
 |av::l,v::t,d::u,i,g=>by
  obtain⟨p,i⟩:=i;obtain⟨a,ad⟩:=g;obtain⟨e,f,V⟩:=Ls r E H i ad;cases d with
  |v q=>
   have D:gn (av::l) (.v q::u)=gn l u:=by cases av<;>first|rfl|(rename_i id b;cases b<;>rfl)|(rename_i id b z D;cases b<;>rfl)
   have a:yh st.h S av q:=(by cases av<;>exact a);exact⟨[]::e,⟨⟨bn,Lq r E H p a⟩,f⟩,by grind⟩
  |s U z=>
   have D:gn (av::l) (.s U z::u)=gn l u:=by cases av<;>first|rfl|(rename_i id b;cases b<;>rfl)|(rename_i id b z D;cases b<;>rfl)
   exact⟨[]::e,⟨bn,f⟩,by grind⟩
  |n=>
   cases av with
   |dh Q=>
    obtain rfl:Q=.slice none 0 0:=a;cases p;exact⟨[]::e,⟨⟨bn,bn⟩,f⟩,by grind [gn]⟩
   |ref id b=>cases b<;>exact a.elim
   |_=>exact a.elim
  |c n d2=>
   cases av with
   |eB m z=>
    obtain⟨rfl,a⟩:=a;cases p with|eB cs am=>
    rename_i a4;refine⟨[]::e,⟨⟨bn,a4.toList,bn,LO r E H (yJ aa (λap R d f V=>am ap R d f (by grind))) a⟩,f⟩,by grind [gn]⟩
   |ref id b=>cases b<;>exact a.elim
   |_=>exact a.elim
  |w bl l c1 co d4=>
   cases av with
   |view id b z D=>cases b with
    |nil=>
     obtain⟨k,⟨rfl,rfl⟩,J,a0⟩:=a;cases p with
     |l7=>omega
     |view j y aw dl ds=>
     rename_i d1 d5 c2 K P O L;rw[k] at j;cases j;obtain⟨aq,ci,T⟩:=aW.gv.1 y;simp only[ah.osl.injEq] at aq;subst aq;have N:=(r.tree id _ k).1;have G:rt id=[.slice (Y ⟨K,P,bo⟩) O L]:=T;have an:=N;obtain⟨bx,ce,a3,d0⟩:=an;rw[a3] at G;simp only[hN,aio,b9] at G;have cv:l.length=O:=G.2.1;refine⟨fp id::e,⟨⟨K,P,L,?_,⟨J,aa,aa⟩,?_⟩,f⟩,by grind [ajt,gn]⟩
     ·rw[az aa]
     have:=aS.fW (τ:=.osl bl) (B':=B') a0 N;grind
    |cons=>exact a.elim
   |ref id b=>cases b<;>exact a.elim
   |_=>exact a.elim
  |m q d3=>
   cases av with
   |ref id b=>cases b with
    |nil=>
     obtain⟨k,J,_⟩:=a;cases p with|ref j y=>
     rw[k] at j;cases j;obtain⟨rfl,rfl,rfl⟩:=aW.gv.1 y;exact⟨fp id::e,⟨⟨rt id,bn,(r.tree id _ k).1.fW J⟩,f⟩,by grind [ajt,gn]⟩
    |cons=>exact a.elim
   |_=>exact a.elim
  |o q=>
   cases av with
   |ref id b=>cases b with
    |nil=>
     have k:ar st.h id=Y q:=a;cases p with|ref j y=>
     rw[k] at j;cases j;obtain⟨rfl,rfl,rfl⟩:=aW.gv.1 y;refine⟨fp id::e,⟨⟨rt id,bn,(r.tree id _ k).1.mono (λm d M=>⟨?_,c8.refl w d⟩) (λd _=>c8.refl w d)⟩,f⟩,by grind [ajt,gn]⟩;cases m
     ·exact M
     exact M.imp (λg=>g) (E d)
    |cons=>exact a.elim
   |dh Q=>
    obtain⟨rfl,bs,rfl⟩:=a;cases p;exact⟨[]::e,⟨⟨[.slice bo 0 0],bn,bo,0,bn,.inl ⟨bn,bn,bn,bn⟩⟩,f⟩,by grind [gn]⟩
   |_=>exact a.elim
end
end
end Go.jg
end
