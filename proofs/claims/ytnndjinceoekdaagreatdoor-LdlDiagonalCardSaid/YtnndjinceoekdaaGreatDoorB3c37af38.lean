/-
  Parts of the proof: Fw1, Fw2, Fw3, Fw4, Fw5, Fw6, Fw7, Fw8, Fw40, Fw41, Fw9, Fw10, Fw11, Fw12, Fw13, Fw14, Fw15, Fw16, Fw17, Fw18, Fw19, Fw20: the framework (Fw), pure forms (Dn), plain laws (Pl, Th), calls of functions (Ok).
-/
import Derived.Laws.AppendOwn
import Derived.ArgAppend
import Derived.Laws.IdiomCopy
import Derived.Laws.Cells
import Derived.Laws.MakeOwn
import Derived.Calls
import Derived.Orders
import Derived.Laws.Entries
import Derived.Maps.RangeRun

set_option linter.all false
set_option maxHeartbeats 1000000
open Go renaming TypeId->bF,Operand->bM,World->bD,MapEntry->cm,Exit->b4,IntKind->cx,undef->bW,Program->b0,Field->ahC,sizeOf->ah1,typeInfo->ahL,run_underlying->b7,Oper->bQ,execOp->bL,eqGuard->aia,binOp->ahq,resolve->ahU,builtin->aib,asIntOf->ail,madeCells->akt,zeroValue->ahu,newRow->ahV,Code->cr
open _root_ renaming Nat->X,Array->bU,Option->bv,DecidableEq->ako,List->bm,Int->Z,Bool->bA,Unit->bt,rfl->bn,and_true->b8,False->b5,true_and->aiD,if_true->cg,congrArg->b3,cond_false->bO,cond_true->bG,beq_self_eq_true->ahM,decide_eq_true->ahg,decide_eq_false->ahN,decide_eq_true_eq->ahD,dif_pos->aip
open Option renaming some->Y,none->bo,isSome_iff_exists->akp,isSome_none->akw,isSome_some->ajN
open Bool renaming true->bp,false->bq
open Go.World renaming cell?_of_block->alw,frozen?_of_block->alx,cell?->aio,frozen?->ajM,setCells->ajT,setCell->alI,cell?_setCells_in->ajc,cell?_setCells_out->ajU,frozen?_setCells->akB
open Go.MapEntry renaming mk->ajC
open Go.Value renaming oneCell'->ahA,int->ahr,map->aiH,agg->alJ
open List renaming mem_cons_of_mem->ajD,mem_flatten->aiC,mem_of_getElem?->aht,getElem?_take->ajF,count_cons->ajG,take_take->aly,all_eq_true->aij,getElem?_eq_some_iff->ahT,drop_drop->ai1,append_eq_nil_iff->akr,drop_eq_getElem_cons->ai4,replicate->bJ,range->bH,pairwise_cons->ai7,filter_eq_self->ain,map_congr_left->ahv,getElem?_inj->ajO,getElem?_toArray->akz,map_toArray->ajQ,map_nil->aiq,foldlM_cons->alE,any_eq_true->alF,getElem?_eq_getElem->bR,mem_append_right->ajV,take_append_drop->aiK,getElem_mem->b6,flatten_cons->air
open Go.Value.pointer renaming injEq->aii
open Go.Addr.mk renaming injEq->ahB
open Go.Value.slice renaming injEq->ahm
open Iff renaming rfl->ajE
open Nat renaming min_self->alz,beq->bI,eq_of_beq_eq_true->ahZ,ble->b2,add_comm->ai6,blt->ca,beq_refl->ai9,div_lt_iff_lt_mul->ajR,mod_lt->aiI,div_add_mod->ajS,add_assoc->aiJ
open Option.some renaming inj->ah0
open ByteArray renaming empty->ajH
open Go.Sem renaming run_bind->bY,run_pure->cy
open Go.Result renaming andThen_ok->b1
open Go.Addr renaming add_lit->ah9
open Go.Oper renaming wp->ahp
open BitVec renaming ofInt->ch
open Decidable renaming decide->br
open Go.Op renaming equalIn->aik,equal->ai2,maxDepth->ai3,unary->akA
open Go.Builtin renaming len_->akq,delete_->aky,append_->aja,firstCells->alG,lenOf->alH,zeroCells->ajb
open Go.Instr renaming loadAt->alA,sureAddr->aiE,sliceBounds->ai5,sliceBound->aks,fill->alB,box->ajJ,findNow->aiF,sameNow->akv,findKey->ai8,checkKey->alC,mapUpdate->ah2,keyThatStays->aiG,sameBits->akx,lookup->ajP
open Int renaming natCast_mul->ajI
open Array renaming map->ajK,mapM_eq_mapM_toList->aku,eraseIdxIfInBounds->alD,getD_eq_getD_getElem?->akC
open List.Pairwise renaming nil->ajL,cons->amS
open Pure renaming pure->aim
open Go.Region renaming wanted->ajW
theorem aa{p:Prop}(h:p:=by omega):p:=h
theorem ab{p:Prop}(h:p:=by decide):p:=h
theorem ac{p:Prop}(h:p:=by simp):p:=h
abbrev au:=@if_pos
abbrev aw:=@if_neg
abbrev aC:=@Option.bind_some
abbrev bc:=@List.getElem?_eq_getElem
abbrev bd:=@Nat.le_refl
abbrev cC:=@Bool.and_eq_true
abbrev cO:=@List.getElem_mem
abbrev cS:=@Nat.lt_or_ge
abbrev c8:=@Nat.zero_le
abbrev dh:=@Nat.le_trans
abbrev eO:=@Option.bind_eq_some_iff
abbrev eP:=@List.mem_map
abbrev eU:=@Option.some.injEq
abbrev e8:=@List.length_map
abbrev fr:=@Int.le_of_lt
abbrev fu:=@Nat.eq_of_beq_eq_true
abbrev fA:=@Int.toNat_natCast
abbrev fB:=@Option.map_eq_some_iff
abbrev fK:=@List.take_of_length_le
abbrev fR:=@List.mem_cons
abbrev gg:=@Int.eq_ofNat_of_zero_le
abbrev gh:=@List.length_take
abbrev gj:=@List.mem_singleton
abbrev gD:=@Option.some.inj
abbrev gT:=@Bool.not_true
abbrev gV:=@Nat.le_of_ble_eq_true
abbrev g0:=@List.all_eq_true
abbrev g6:=@List.mem_cons_of_mem
abbrev ho:=@List.mem_iff_getElem
abbrev hx:=@List.mem_filter
abbrev hJ:=@List.getElem?_eq_some_iff
abbrev hP:=@List.cons.injEq
abbrev hQ:=@List.ext_getElem?
abbrev hR:=@List.take_add_one
abbrev hS:=@List.take_length
abbrev h0:=@List.pairwise_iff_getElem
abbrev h1:=@Nat.min_eq_left
abbrev h7:=@List.map_cons
abbrev h8:=@List.mem_append
abbrev h9:=@List.mem_range
abbrev ik:=@List.map_congr_left
abbrev im:=@Prod.mk.injEq
abbrev iy:=@List.map_append
abbrev iz:=@Nat.mul_le_mul_right
abbrev iL:=@List.nil_append
abbrev iM:=@List.range_succ
abbrev i7:=@Int.lt_or_le
abbrev jb:=@List.append_assoc
abbrev jc:=@List.length_cons
abbrev jd:=@List.mem_of_getElem?
abbrev je:=@Nat.lt_of_lt_of_le
abbrev jf:=@Nat.pow_add
abbrev jl:=@Bool.or_eq_true
abbrev jn:=@List.getElem?_map
abbrev jo:=@Option.map_some
abbrev jG:=@Nat.two_pow_pos
abbrev jV:=@Int.mul_assoc
abbrev jW:=@Int.mul_le_mul_of_nonneg_left
abbrev jY:=@List.nodup_append
abbrev jZ:=@List.nodup_cons
abbrev ku:=@List.length_append
abbrev kv:=@List.length_filter_le
abbrev kw:=@List.take_append_drop
abbrev kR:=@Int.mul_comm
abbrev lj:=@List.drop_zero
abbrev lm:=@List.mem_append_right
abbrev lO:=@Int.emod_add_mul_ediv
abbrev lP:=@Int.pow_add
abbrev lQ:=@List.flatten_cons
abbrev lR:=@List.length_range
abbrev lS:=@List.mem_flatten
abbrev me:=@Bool.not_false
abbrev mf:=@Int.ediv_nonneg
abbrev mg:=@Int.pow_pos
abbrev mh:=@List.filter_eq_self
abbrev mi:=@List.getD_eq_getElem?_getD
abbrev mP:=@List.pairwise_cons
abbrev mQ:=@Nat.add_zero
abbrev mR:=@Nat.one_mul
abbrev mS:=@Nat.zero_add
abbrev nb:=@Int.mul_le_mul_of_nonneg_right
abbrev nc:=@Int.mul_nonneg
abbrev nf:=@List.length_drop
abbrev ng:=@List.mem_cons_self
abbrev nh:=@Nat.add_mul
abbrev nV:=@Int.emod_nonneg
abbrev nW:=@List.cons_append
abbrev nX:=@List.drop_eq_nil_of_le
abbrev nY:=@List.filter_cons
abbrev n0:=@Nat.eq_zero_or_pos
abbrev oI:=@Int.zero_mul
abbrev oJ:=@List.append_nil
abbrev oK:=@List.length_nil
abbrev oL:=@List.map_map
abbrev oM:=@List.pairwise_map
abbrev oO:=@Nat.mul_assoc
abbrev oP:=@Nat.mul_le_mul
abbrev oQ:=@Nat.sub_self
abbrev pt:=@Int.ediv_eq_zero_of_lt
abbrev pu:=@Int.emod_lt_of_pos
abbrev py:=@List.any_eq_true
abbrev pz:=@List.filter_append
abbrev pA:=@List.filter_congr
abbrev pB:=@List.flatMap_append
abbrev pC:=@List.getElem?_append_right
abbrev pD:=@List.getElem?_drop
abbrev qr:=@Array.mem_append_right
abbrev qv:=@List.drop_drop
abbrev qw:=@List.drop_of_length_le
abbrev qx:=@List.eq_nil_of_length_eq_zero
abbrev qy:=@List.getElem?_append_left
abbrev qz:=@List.getElem?_cons_zero
abbrev qA:=@List.getElem?_eq_none
abbrev qB:=@List.getElem_inj
abbrev qC:=@List.length_eq_one_iff
abbrev qD:=@List.length_replicate
abbrev qE:=@Nat.lt_trichotomy
abbrev qF:=@Nat.mul_comm
abbrev rN:=@Array.getElem?_eq_some_iff
abbrev rQ:=@Int.ediv_lt_of_lt_mul
abbrev rR:=@Int.emod_eq_of_lt
abbrev rS:=@Int.mul_lt_mul_of_pos_right
abbrev rT:=@Int.mul_pos
abbrev rU:=@List.all_cons
abbrev rV:=@List.drop_append_of_le_length
abbrev rW:=@List.length_singleton
abbrev rX:=@List.mem_append_left
abbrev rY:=@List.mem_of_mem_take
abbrev rZ:=@Nat.add_sub_cancel_left
abbrev r0:=@Nat.div_add_mod
abbrev r1:=@Nat.lt_succ_self
abbrev r2:=@Option.getD_some
abbrev tu:=@Bool.and_eq_true_iff
abbrev tv:=@Bool.not_eq_true'
abbrev tB:=@Int.ediv_ediv_of_nonneg
abbrev tC:=@Int.ediv_le_self
abbrev tD:=@List.Pairwise.imp_of_mem
abbrev tE:=@List.any_eq_false
abbrev tF:=@List.count_append
abbrev tG:=@List.filter_sublist
abbrev tH:=@List.getElem?_take_of_lt
abbrev tI:=@List.map_singleton
abbrev tJ:=@List.perm_iff_count
abbrev tK:=@List.size_toArray
abbrev tL:=@Nat.pow_le_pow_right
abbrev tM:=@Nat.pow_succ
abbrev vD:=@Array.replicate_succ
abbrev vE:=@Array.replicate_zero
abbrev vF:=@Bool.eq_iff_iff
abbrev vK:=@Int.add_mul_ediv_left
abbrev vL:=@Int.natAbs_mul
abbrev vM:=@List.append_toArray
abbrev vN:=@List.drop_eq_getElem_cons
abbrev vO:=@List.ext_getElem
abbrev vP:=@List.getElem?_cons_succ
abbrev vQ:=@List.getElem?_set
abbrev vR:=@List.nodup_range
abbrev vS:=@List.push_toArray
abbrev yg:=@Int.add_mul_emod_self_left
abbrev yh:=@Int.natCast_mul
abbrev yi:=@List.append_of_mem
abbrev yj:=@List.flatten_append
abbrev yk:=@List.foldl_cons
abbrev yl:=@List.getElem_set_ne
abbrev ym:=@List.length_pos_iff
abbrev yn:=@List.mem_take_iff_getElem
abbrev yo:=@List.mem_toArray
abbrev yp:=@List.singleton_append
abbrev yq:=@List.take_append_of_le_length
abbrev yr:=@Nat.div_le_self
abbrev AY:=@Array.getElem?_eq_getElem
abbrev AZ:=@Array.getElem?_toList
abbrev A0:=@Bool.or_eq_true_iff
abbrev A4:=@Int.lt_of_mul_lt_mul_left
abbrev A5:=@List.filter_cons_of_neg
abbrev A6:=@List.filter_filter
abbrev A7:=@List.getElem?_range
abbrev A8:=@List.range_eq_range'
abbrev A9:=@List.takeWhile_append_dropWhile
abbrev Ba:=@List.take_succ_cons
abbrev Fp:=@Int.tdiv_eq_ediv_of_nonneg
abbrev Fq:=@Int.tmod_eq_emod_of_nonneg
abbrev Fu:=@List.filter_cons_of_pos
abbrev di:=List (Int×(Int×(List Int×(Int×Unit))))×(Option (List (Int×(Int×(List Int×(Int×Unit)))))×Option (List Int)×Unit)×Unit
abbrev dk:=(List (List Int)×Unit)×List (Int×(Int×(List Int×(Int×Unit))))×Unit
abbrev dm:=List (Int×(Int×(List Int×(Int×Unit))))×(Option Int×Unit)×Unit
abbrev dn:=(List (List Int)×Unit)×(List (List Int)×Unit)×List Int×Unit
abbrev dp:=(Int×List Int×Unit)⊕((List Int×Unit)⊕(List Int×Bool×Unit))
abbrev dq:=(List Int×Unit)⊕((Int×List Int×Unit)⊕(Unit⊕(Int×Unit)))
abbrev dr:=Int×(List (List Int)×Unit)×(List (List Int)×Unit)×Unit
abbrev dt:=(List (List Int)×Unit)×(List (List Int)×Unit)×Unit
abbrev du:=List Int×(Option (List (List Int)×Unit)×Unit)×Unit
abbrev dv:=(Int×Unit)⊕(Unit⊕((Int×Unit)⊕(Unit⊕(Int×Unit))))
abbrev dw:=Int×(List (List Int)×Unit)×List (List Bool)×Unit
abbrev dx:=List (Int×(Int×(List Int×(Int×Unit))))×Int×Unit
abbrev dy:=(List (List Int)×Unit)×List (List Bool)×Unit
abbrev dz:=Int×(List (List Bool)×(List Bool×Unit))×Unit
abbrev dA:=Unit⊕(Unit⊕((Int×Unit)⊕(Unit⊕(Int×Unit))))
abbrev dB:=(List (List Bool)×(List Bool×Unit))×Unit
abbrev dC:=(Int×List Bool×Unit)⊕(Unit⊕(Bool×Unit))
abbrev dD:=List (Int×(Int×(List Int×(Int×Unit))))
abbrev dE:=(Int×Int×Unit)⊕((Int×Unit)⊕(Int×Unit))
abbrev dG:=(List (List Int)×Unit)×List Int×Unit
abbrev dH:=(List Int×Unit)⊕(List Int×Bool×Unit)
abbrev dI:=Unit⊕((Int×Unit)⊕(Unit⊕(Int×Unit)))
abbrev dJ:=(Int×List Int×Unit)⊕(List Int×Unit)
abbrev dL:=(Int×Int×Unit)⊕(Unit⊕(Bool×Unit))
abbrev dM:=List (List Bool)×(List Bool×Unit)
abbrev dN:=(List (List Int)×Unit)×Int×Unit
abbrev dO:=Int×(Int×(List Int×(Int×Unit)))
abbrev dP:=(Int×Unit)⊕(Unit⊕(Bool×Unit))
abbrev dQ:=(Int×Unit)⊕(Unit⊕(Int×Unit))
abbrev dR:=(List (List Int)×Unit)×Unit
abbrev dS:=Int×List (List Bool)×Unit
abbrev dT:=Int×(List Int×(Int×Unit))
abbrev dU:=List (List Bool)×Unit
abbrev dV:=(Int×Unit)⊕(Int×Unit)
abbrev dW:=List (List Int)×Unit
abbrev dY:=List Int×Bool×Unit
abbrev dZ:=Int×List Bool×Unit
abbrev ea:=List Int×Int×Unit
abbrev eb:=Int×List Int×Unit
abbrev ec:=Nat×Nat×List Nat
abbrev ed:=Unit⊕(Bool×Unit)
abbrev ee:=Unit⊕(Int×Unit)
abbrev ef:=List Bool×Unit
abbrev eg:=Int×Bool×Unit
abbrev eh:=List Int×Unit
abbrev ei:=Bool×Int×Unit
abbrev ej:=Int×Int×Unit
abbrev en:=Bool×Unit
abbrev eo:=Int×Unit
abbrev ep:=Nat×Nat
abbrev er:=List (List Go.Value)
abbrev es:=Option (List Int)
abbrev et:=List (Option Int)
abbrev eu:=List (List Bool)
abbrev ev:=List (List Nat)
abbrev ew:=List (List Int)
abbrev ag2:=Option Go.Operand
abbrev ag3:=Array Go.Value
abbrev ag4:=List Go.TypeId
abbrev ag5:=List Go.Value
abbrev ag6:=Option Int
abbrev ag7:=Option Nat
abbrev ag8:=List Bool
abbrev ag9:=Option en
abbrev aha:=Option eo
abbrev ahb:=List Nat
abbrev ahc:=List Int
abbrev ahd:=List ep
noncomputable section
namespace Go.jm
variable{a x T:bF}{b i:X}{c h:bM}{f m:bD}{g y:ag5}{j:X->Prop}{k:ahb}{o:bU cm}{p:X->ag5}{q:X->ahb}{s:bv Addr}{t:b4->Act->bD->Prop}{v:cx}{z:ag3}{N S:Type}{Q:bU (X×bM)}{R:Value}
inductive eD where
 |bh
 |eE
 deriving ako
variable{e:eD->X->Prop}
inductive ai where
 |int (k:cx)
 |bool
 |str
 |a6 (m:eD) (t:ai)
 |ptr (m:eD) (t:ai)
 |osl (t:ai)
 |optr (t:ai)
 |st (t:ai)
 |pr (a b:ai)
 |nil
 |eK
 |mp (t:ai)
 |fw (m:eD) (t:ai)
 |fn (n:X) (t:ai)
 deriving ako
variable{d r:ai}{l:bm (X×ai)}
def ai.size:ai->X
 |.pr a b=>a.size+b.size
 |.st c=>c.size
 |.nil|.eK=>0
 |_=>1
@[reducible] def ai.den:ai->Type
 |.int _=>Z
 |.bool=>bA
 |.str=>ByteArray
 |.a6 _ a=>bm a.den
 |.ptr _ a=>bv a.den
 |.osl a=>bm a.den
 |.optr a=>a.den
 |.st a=>a.den
 |.pr b c=>b.den×c.den
 |.nil=>bt
 |.eK=>bt
 |.mp a=>bv (bm (Z×a.den)×X)
 |.fw _ a=>bv (bm (Z×a.den)×X)
 |.fn _ a=>a.den
def kx {d:Type} (b:bm (Z×X×d)) (c:bm (Z×d)) (g:X):Prop:=
 c.Pairwise (λe f=>e.1<f.1)/\(b.map λa=>(a.1,a.2.2)).Perm c/\(b.map λa=>a.2.1).Nodup/\∀a∈b,a.2.1<g
def cW:ai->ag5->Value
 |.st _,a=>.agg a.toArray
 |_,a=>a.headD bW
def fq (f:bD) (c e:X) (d:ag5):Prop:=∀a b,d[a]?=Y b->f.cell? ⟨c,e+a,bo⟩=Y b
def iJ (c:bD) (b e d:X):Prop:=∀a,e<=a->a<d->(c.cell? ⟨b,a,bo⟩).isSome=bp/\c.frozen? ⟨b,a,bo⟩=bq
def iX (d:bD) (a:X):bv (bU cm×X):=match d.heap[a]? with
 |some (.map c b)=>Y (c,b)
 |_=>bo
def c5 (c d:bD) (a:X):Prop:=(∀b,d.cell? ⟨a,b,bo⟩=c.cell? ⟨a,b,bo⟩/\d.frozen? ⟨a,b,bo⟩=c.frozen? ⟨a,b,bo⟩)/\iX d a=iX c a
def c5.refl (a:bD) (b:X):c5 a a b:=⟨λ_=>⟨bn,bn⟩,bn⟩
theorem c5.of_heap (c:m.heap[b]?=f.heap[b]?):c5 f m b:=
 ⟨λd=>⟨alw (a:=⟨b,d,bo⟩) c,alx (a:=⟨b,d,bo⟩) c⟩,by grind [iX]⟩
def kQ (j k:bD) (d:X):Prop:=∀f b,iX j d=Y (f,b)->∃g e,iX k d=Y (g,e)/\b<=e/\∀(h:X) (a:cm),g[h]?=Y a->a.born<b->∃(i:X) (c:cm),f[i]?=Y c/\c.key=a.key/\c.born=a.born
def kQ.of_eq (e:iX m b=iX f b):kQ f m b:=
 λd a h=>⟨d,a,e.trans h,bd _,λi c g _=>⟨i,c,g,bn,bn⟩⟩
def kQ.refl (a:bD) (b:X):kQ a a b:=.of_eq bn
def kQ.of_heap {b c:bD} {a:X} (d:c.heap[a]?=b.heap[a]?):kQ b c a:=.of_eq (c5.of_heap d).2
theorem kQ.trans {a:bD} (h:kQ f m b) (i:kQ m a b):kQ f a b:=λe c k=>by obtain⟨g,d,j,o,p⟩:=h e c k;obtain⟨n,l,q,r,s⟩:=i g d j;grind
def fq.sm (a:fq f b i g) (d:c5 f m b):fq m b i g:=
 λe h c=>by rw[(d.1 _).1];exact a e h c
def iJ.sm {c:X} (d:iJ f b c i) (a:c5 f m b):iJ m b c i:=
 λh e g=>by rw[(a.1 _).1,(a.1 _).2];exact d h e g
def aS (i:eD->X->Prop) (f:bD):(B:ai)->ag5->B.den->ahb->Prop
 |.int z,a,v,d=>d=[]/\a=[.int z v]
 |.bool,a,c,d=>d=[]/\a=[.bool c]
 |.str,a,A,d=>d=[]/\a=[.string A]
 |.a6 s b,a,l,d=>d=[]/\∃k n,a=[.slice k l.length n]/\l.length<=n/\(k=bo->n=0)/\(l=[]\/∃c h,k=Y ⟨c,h,bo⟩/\i s c/\∀j g,l[j]?=Y g->∃e,e.length=b.size/\fq f c (h+j*b.size) e/\aS i f b e g [])
 |.ptr s b,a,g,d=>d=[]/\match g with
  |none=>a=[.pointer bo]
  |some w=>∃c h e,a=[.pointer (Y ⟨c,h,bo⟩)]/\i s c/\e.length=b.size/\fq f c h e/\aS i f b e w []
 |.osl b,a,l,d=>∃k n,a=[.slice k l.length n]/\((
   k=bo/\l=[]/\n=0/\d=[])\/∃(c h:X) (t:ev),k=Y ⟨c,h,bo⟩/\d=c::t.flatten/\t.length=l.length/\l.length<=n/\
   iJ f c h (h+n*b.size)/\∀j g r,l[j]?=Y g->t[j]?=Y r->∃e,e.length=b.size/\fq f c (h+j*b.size) e/\aS i f b e g r)
 |.optr b,a,w,d=>∃c h r e,a=[.pointer (Y ⟨c,h,bo⟩)]/\d=c::r/\e.length=b.size/\fq f c h e/\iJ f c h (h+b.size)/\aS i f b e w r
 |.st b,a,g,d=>aS i f b a g d
 |.pr k c,a,g,d=>∃x f2,d=x++f2/\aS i f k (a.take k.size) g.1 x/\aS i f c (a.drop k.size) g.2 f2
 |.nil,a,_,d=>d=[]/\a=[]
 |.eK,a,_,_=>a=[]
 |.mp b,a,g,d=>match g with
  |none=>d=[]/\a=[.map bo]
  |some (u,q)=>∃(c:X) (p:bU cm) (o:bm (Z×X×b.den)),a=[.map (Y c)]/\d=[c]/\kx o u q/\iX f c=Y (p,q)/\p.size=o.length/\∀(j:X) (m:Z×X×b.den),o[j]?=Y m->∃e:ag5,e.length=b.size/\p[j]?=Y (ajC (.int .i64 m.1) (cW b e) m.2.1)/\aS i f b e m.2.2 []
 |.fw s b,a,g,d=>match g with
  |none=>d=[]/\a=[.map bo]
  |some (u,q)=>∃(c:X) (p:bU cm) (o:bm (Z×X×b.den)),a=[.map (Y c)]/\d=[]/\kx o u q/\i s c/\iX f c=Y (p,q)/\p.size=o.length/\∀(j:X) (m:Z×X×b.den),o[j]?=Y m->∃e:ag5,e.length=b.size/\p[j]?=Y (ajC (.int .i64 m.1) (cW b e) m.2.1)/\aS i f b e m.2.2 []
 |.fn v b,a,g,d=>d=[]/\∃y:ag5,a=[.func (.func v) #[] y.toArray]/\aS i f b y g []
theorem aS.len {i:eD->X->Prop} {r:bD}:∀{τ:ai} {e:ag5} {b:τ.den} {l:ahb},aS i r τ e b l->e.length=τ.size
 |.int _,_,_,_,a=>by rw[a.2];rfl
 |.bool,_,_,_,a=>by rw[a.2];rfl
 |.str,_,_,_,a=>by rw[a.2];rfl
 |.a6 _ _,_,_,_,a=>by obtain⟨_,c,g,a,_⟩:=a;rw[a];rfl
 |.ptr _ _,_,b,_,a=>by
  obtain⟨_,a⟩:=a;cases b with
  |none=>simp only at a;rw[a];rfl
  |some x=>obtain⟨d,v,j,a,_⟩:=a;rw[a];rfl
 |.osl _,_,_,_,a=>by obtain⟨c,g,a,_⟩:=a;rw[a];rfl
 |.optr _,_,_,_,a=>by obtain⟨c,g,s,j,a,_⟩:=a;rw[a];rfl
 |.st f,_,_,_,a=>aS.len (τ:=f) a
 |.pr c d,e,_,_,a=>by obtain⟨t,f2,_,m,n⟩:=a;have o:=aS.len (τ:=c) m;have p:=aS.len (τ:=d) n;simp only[gh,nf] at o p;show e.length=c.size+d.size;omega
 |.nil,_,_,_,a=>by rw[a.2];rfl
 |.eK,_,_,_,a=>by rw[show _=[] from a];rfl
 |.mp f,_,b,_,a=>by
  cases b with
  |none=>rw[a.2];rfl
  |some q=>obtain⟨d,k,h,a,_⟩:=a;rw[a];rfl
 |.fw u f,_,b,_,a=>by
  cases b with
  |none=>rw[a.2];rfl
  |some q=>obtain⟨d,k,h,a,_⟩:=a;rw[a];rfl
 |.fn _ _,_,_,_,a=>by obtain⟨_,w,a,_⟩:=a;rw[a];rfl
theorem aS.one {j:eD->X->Prop} {r:bD}:∀{τ:ai} {cs:ag5} {c:τ.den} {l:ahb},aS j r τ cs c l->∀e∈cs,e.oneCell'=bp
 |.int _,_,_,_,a=>by rw[a.2];simp[ahA]
 |.bool,_,_,_,a=>by rw[a.2];simp[ahA]
 |.str,_,_,_,a=>by rw[a.2];simp[ahA]
 |.a6 _ _,_,_,_,a=>by obtain⟨_,d,h,a,_⟩:=a;grind [ahA]
 |.ptr _ _,_,c,_,a=>by obtain⟨_,a⟩:=a;grind [ahA]
 |.osl _,_,_,_,a=>by obtain⟨d,h,a,_⟩:=a;grind [ahA]
 |.optr _,_,_,_,a=>by obtain⟨d,h,f,s,a,_⟩:=a;grind [ahA]
 |.st t,_,_,_,a=>aS.one (τ:=t) a
 |.pr d g,cs,_,_,a=>by
  obtain⟨u,f2,_,m,n⟩:=a;have o:=aS.one (τ:=d) m;have p:=aS.one (τ:=g) n;intro e b;rw[<-kw d.size cs] at b;rcases h8.1 b with b|b
  ·exact o e b
  exact p e b
 |.nil,_,_,_,a=>by rw[a.2];simp
 |.eK,_,_,_,a=>by rw[show _=[] from a];simp
 |.mp t,_,c,_,a=>by
  cases c with
  |none=>rw[a.2];simp[ahA]
  |some q=>obtain⟨g,k,i,a,_⟩:=a;grind [ahA]
 |.fw v t,_,c,_,a=>by
  cases c with
  |none=>rw[a.2];simp[ahA]
  |some q=>obtain⟨g,k,i,a,_⟩:=a;grind [ahA]
 |.fn _ _,_,_,_,a=>by obtain⟨_,w,a,_⟩:=a;grind [ahA]
theorem aS.mono {L M:eD->X->Prop} {B C:bD} (d:∀j b,L j b->M j b/\c5 B C b):∀{τ:ai} {F:ag5} {g:τ.den} {r:ahb},aS L B τ F g r->(∀b∈r,c5 B C b)->aS M C τ F g r
 |.int _,_,_,_,a,_=>a
 |.bool,_,_,_,a,_=>a
 |.str,_,_,_,a,_=>a
 |.a6 j m,_,U,_,a,_=>by obtain⟨y,x,E,e,c,k,l⟩:=a;refine⟨y,x,E,e,c,k,l.imp id ?_⟩;rintro⟨b,w,J,i,K⟩;refine⟨b,w,J,(d j b i).1,λv g u=>?_⟩;obtain⟨h,o,p,q⟩:=K v g u;exact⟨h,o,p.sm (d j b i).2,aS.mono d q ac⟩
 |.ptr j m,_,g,_,a,_=>by
  obtain⟨y,a⟩:=a;refine⟨y,?_⟩;cases g with
  |none=>exact a
  |some ad=>
   obtain⟨b,w,h,e,c,k,l,s⟩:=a;exact⟨b,w,h,e,(d j b c).1,k,l.sm (d j b c).2,aS.mono d s ac⟩
 |.osl m,_,U,r,a,f=>by obtain⟨x,E,e,c⟩:=a;refine⟨x,E,e,c.imp id ?_⟩;rintro⟨b,w,O,J,z,S,t,R,K⟩;have i:c5 B C b:=f b (by grind);refine⟨b,w,O,J,z,S,t,R.sm i,λv g H u Q=>?_⟩;obtain⟨h,o,p,q⟩:=K v g H u Q;refine⟨h,o,p.sm i,aS.mono d q (λn t=>f n ?_)⟩;grind [ajD,aiC,aht]
 |.optr m,_,_,_,a,f=>by obtain⟨b,w,H,h,e,c,k,l,s,P⟩:=a;have i:c5 B C b:=f b (by grind);exact⟨b,w,H,h,e,c,k,l.sm i,s.sm i,aS.mono d P (λn t=>f n (by grind))⟩
 |.st m,_,_,_,a,f=>aS.mono (τ:=m) d a f
 |.pr x b,F,_,_,a,f=>by obtain⟨N,f2,z,e,c⟩:=a;exact⟨N,f2,z,aS.mono (τ:=x) d e (λn t=>f n (by rw[z];exact rX _ t)),aS.mono (τ:=b) d c (λn t=>f n (by rw[z];exact lm _ t))⟩
 |.nil,_,_,_,a,_=>a
 |.eK,_,_,_,a,_=>a
 |.mp m,_,g,r,a,f=>by
  cases g with
  |none=>exact a
  |some A=>
   obtain⟨b,G,D,e,c,I,k,l,s⟩:=a;refine⟨b,G,D,e,c,I,(f b (by rw[c];simp)).2.trans k,l,λv A u=>?_⟩;obtain⟨h,o,p,q⟩:=s v A u;exact⟨h,o,p,aS.mono d q ac⟩
 |.fw j m,_,g,r,a,f=>by
  cases g with
  |none=>exact a
  |some A=>
   obtain⟨b,G,D,e,c,I,i,k,l,s⟩:=a;refine⟨b,G,D,e,c,I,(d j b i).1,(d j b i).2.2.trans k,l,λv A u=>?_⟩;obtain⟨h,o,p,q⟩:=s v A u;exact⟨h,o,p,aS.mono d q ac⟩
 |.fn V m,_,g,r,a,_=>by obtain⟨y,T,e,c⟩:=a;exact⟨y,T,e,aS.mono d c ac⟩
def ai.kK:ai->bA
 |.eK=>bq
 |.a6 _ a|.ptr _ a|.osl a|.optr a|.st a|.mp a|.fw _ a|.fn _ a=>a.kK
 |.pr b c=>b.kK&&c.kK
 |_=>bp
theorem aS.uniq {r:eD->X->Prop} {x:bD}:∀{τ:ai} {p:ag5} {e k:τ.den} {h u:ahb},τ.kK=bp->aS r x τ p e h->aS r x τ p k u->h=u
 |.int _,_,_,_,_,_,_,a,b=>a.1.trans b.1.symm
 |.bool,_,_,_,_,_,_,a,b=>a.1.trans b.1.symm
 |.str,_,_,_,_,_,_,a,b=>a.1.trans b.1.symm
 |.a6 _ _,_,_,_,_,_,_,a,b=>a.1.trans b.1.symm
 |.ptr _ _,_,_,_,_,_,_,a,b=>a.1.trans b.1.symm
 |.nil,_,_,_,_,_,_,a,b=>a.1.trans b.1.symm
 |.fn _ _,_,_,_,_,_,_,a,b=>a.1.trans b.1.symm
 |.eK,_,_,_,_,_,d,_,_=>by cases d
 |.fw F g,p,e,k,h,u,_,a,b=>by
  have a0:∀{e:(ai.fw F g).den} {h:ahb},aS r x (.fw F g) p e h->h=[]:=λ{e h} a=>by
   cases e with
   |none=>exact a.1
   |some Q=>obtain⟨l,C,y,_,m,_⟩:=a;exact m
  grind
 |.mp g,_,e,k,_,_,_,a,b=>by
  cases e with
  |none=>
   cases k with
   |none=>exact a.1.trans b.1.symm
   |some R=>
    obtain⟨l,C,y,f,_⟩:=b;have:=a.2.symm.trans f;grind
  |some Q=>
   obtain⟨l,C,y,f,m,_⟩:=a;cases k with
   |none=>
    have:=f.symm.trans b.2;grind
   |some R=>
    obtain⟨A,a3,V,i,D,_⟩:=b;grind
 |.st g,_,_,_,_,_,d,a,b=>aS.uniq (τ:=g) d a b
 |.pr z l,_,_,_,_,_,d,a,b=>by simp only[ai.kK,cC] at d;obtain⟨bl,f2,rfl,f,m⟩:=a;obtain⟨bs,bx,rfl,E,v⟩:=b;rw[aS.uniq (τ:=z) d.1 f E,aS.uniq (τ:=l) d.2 m v]
 |.optr g,_,_,_,_,_,d,a,b=>by
  obtain⟨l,O,h,j,f,rfl,E,v,_,L⟩:=a;obtain⟨A,P,a4,n,i,rfl,ce,K,_,M⟩:=b;rw[f] at i;simp only[hP,aii,eU,ahB,b8] at i;obtain⟨rfl,rfl⟩:=i;obtain rfl:j=n:=by
   apply hQ;intro c;rcases cS c j.length with w|w
   ·have ax:=v c j[c] (by grind);have S:=K c (n[c]'(by omega)) ac
    grind
   grind
  rw[aS.uniq (τ:=g) d L M]
 |.osl g,_,e,k,_,_,d,a,b=>by
  obtain⟨z,am,f,m⟩:=a;obtain⟨ad,an,i,D⟩:=b;rw[f] at i;simp only[hP,ahm,b8] at i;obtain⟨rfl,ci,rfl⟩:=i;rcases m with⟨rfl,rfl,rfl,rfl⟩|⟨l,O,s,rfl,rfl,ax,S,cv,T⟩
  ·grind
  rcases D with⟨q,_⟩|⟨A,P,t,q,rfl,co,cs,c1,U⟩
  ·cases q
  simp only[eU,ahB,b8] at q;obtain⟨rfl,rfl⟩:=q;have:s=t:=by
   apply hQ;intro c;rcases cS c e.length with w|w
   ·have ao:s[c]?=Y (s[c]'(by omega)):=bc aa
    have B:t[c]?=Y (t[c]'(by omega)):=bc aa
    obtain⟨j,ap,G,I⟩:=T c e[c] _ (by grind) ao;obtain⟨n,av,H,J⟩:=U c (k[c]'(by omega)) _ ac B
    obtain rfl:j=n:=by
     apply hQ;intro o;rcases cS o j.length with N|N
     ·have c2:=G o j[o] (by grind);have dl:=H o (n[o]'(by omega)) ac
      grind
     grind
    rw[ao,B,aS.uniq (τ:=g) d I J]
   grind
  grind
inductive aZ where
 |idx (i:X)
 |deref
 |unst
 |fst
 |snd
 deriving ako
variable{n:bm aZ}
def eN:(τ:ai)->τ.den->bm aZ->(a:ai)->a.den->Prop
 |τ,d,[],a,b=>∃i:τ=a,i▸d=b
 |.osl e,k,.idx j::c,a,b=>∃f,k[j]?=Y f/\eN e f c a b
 |.optr e,d,.deref::c,a,b=>eN e d c a b
 |.st e,d,.unst::c,a,b=>eN e d c a b
 |.pr g _,d,.fst::c,a,b=>eN g d.1 c a b
 |.pr _ h,d,.snd::c,a,b=>eN h d.2 c a b
 |_,_,_,_,_=>b5
def e9:(τ:ai)->τ.den->bm aZ->(a:ai)->a.den->τ.den->Prop
 |τ,_,[],a,b,e=>∃m:τ=a,m▸e=b
 |.osl g,j,.idx i::c,a,b,n=>∃h f,j[i]?=Y h/\e9 g h c a b f/\n=j.set i f
 |.optr g,d,.deref::c,a,b,e=>e9 g d c a b e
 |.st g,d,.unst::c,a,b,e=>e9 g d c a b e
 |.pr k _,d,.fst::c,a,b,e=>∃f,e9 k d.1 c a b f/\e=(f,d.2)
 |.pr _ l,d,.snd::c,a,b,e=>∃f,e9 l d.2 c a b f/\e=(d.1,f)
 |_,_,_,_,_,_=>b5
theorem eN.gz {a:d.den} {b:r.den}:eN d a [] r b↔∃c:d=r,c▸a=b:=by cases d<;>exact ajE
theorem e9.gz {e a:d.den} {b:r.den}:e9 d e [] r b a↔∃c:d=r,c▸a=b:=by cases d<;>exact ajE
abbrev Loc:=bv ep
variable{w:Loc}
def aX (k:bD):(τ:ai)->Loc->ag5->bm aZ->(a:ai)->Loc->ag5->Prop
 |τ,i,b,[],a,d,c=>τ=a/\i=d/\b=c
 |.osl g,_,b,.idx m::f,a,d,c=>∃e j n p h,b=[.slice (Y ⟨e,j,bo⟩) n p]/\m<n/\h.length=g.size/\fq k e (j+m*g.size) h/\aX k g (Y (e,j+m*g.size)) h f a d c
 |.optr g,_,b,.deref::f,a,d,c=>∃e j h,b=[.pointer (Y ⟨e,j,bo⟩)]/\h.length=g.size/\fq k e j h/\aX k g (Y (e,j)) h f a d c
 |.st g,i,b,.unst::f,a,d,c=>aX k g i b f a d c
 |.pr l _,i,b,.fst::f,a,d,c=>aX k l i (b.take l.size) f a d c
 |.pr l e,i,b,.snd::f,a,d,c=>aX k e (i.map λo=>(o.1,o.2+l.size)) (b.drop l.size) f a d c
 |_,_,_,_,_,_,_=>b5
theorem fq.eq (c:fq f b i g) (d:fq f b i y) (k:g.length=y.length):g=y:=by
 apply hQ;intro a;rcases cS a g.length with e|e
 ·have h:=c a g[a] (by grind);have j:=d a (y[a]'(by omega)) ac
  grind
 grind
theorem aX.lu {w:bD}:∀{p:bm aZ} {e:ai} {j:Loc} {f:ag5} {u v:ai} {g h:Loc} {q r:ag5},aX w e j f p u g q->aX w e j f p v h r->u=v/\g=h/\q=r
 |[],e,j,f,_,_,_,_,_,_,c,d=>by grind [aX]
 |s::p,e,j,f,_,_,_,_,_,_,c,d=>by
  cases e<;>cases s<;>simp only[aX] at c d
  case osl.idx t i=>
   obtain⟨m,A,E,C,y,ao,_,g,k,n⟩:=c;obtain⟨x,B,F,D,z,b,_,h,l,o⟩:=d;rw[ao] at b;simp only[hP,ahm,eU,ahB,b8] at b;obtain⟨⟨rfl,rfl⟩,rfl,rfl⟩:=b;obtain rfl:=k.eq l aa;exact aX.lu n o
  case optr.deref t=>
   obtain⟨m,A,y,ao,g,k,n⟩:=c;obtain⟨x,B,z,b,h,l,o⟩:=d;rw[ao] at b;simp only[hP,aii,eU,ahB,b8] at b;obtain⟨rfl,rfl⟩:=b;obtain rfl:=k.eq l aa;exact aX.lu n o
  case st.unst t=>exact aX.lu c d
  case pr.fst a m=>exact aX.lu c d
  case pr.snd a m=>exact aX.lu c d
def rP (c d:bD) (f:Loc) (g:X) (b:X):Prop:=
 (∀a,(∀e,f=Y (b,e)->a<e\/e+g<=a)->d.cell? ⟨b,a,bo⟩=c.cell? ⟨b,a,bo⟩)/\
 (∀a,d.frozen? ⟨b,a,bo⟩=c.frozen? ⟨b,a,bo⟩)/\(∀a,(d.cell? ⟨b,a,bo⟩).isSome=(c.cell? ⟨b,a,bo⟩).isSome)/\iX d b=iX c b
def rP.sm (a:rP f m w i b) (e:∀c,w≠Y (b,c)):c5 f m b:=
 ⟨λd=>⟨a.1 d (λc g=>absurd g (e c)),a.2.1 d⟩,a.2.2.2⟩
def rP.MP {j c:X} (a:rP f m w j b) (g:iJ f b c i):iJ m b c i:=
 λh d e=>by rw[a.2.1,a.2.2.1];exact g h d e
def pE (c:bD) (e:Loc) (d:ag5) (f:X):Prop:=∀b a,e=Y (b,a)->fq c b a d/\iJ c b a (a+f)
theorem fq.take {e:bD} {b d h:X} {c:ag5} (f:fq e b d c):fq e b d (c.take h):=λg i a=>by
 rw[ajF] at a;split at a
 ·exact f g i a
 grind
theorem fq.drop {f:bD} {b e a:X} {c:ag5} (g:fq f b e c):fq f b (e+a) (c.drop a):=λh i d=>by rw[pD] at d;have:=g (a+h) i d;grind
theorem fq.append (d:fq f b i g) (e:fq f b (i+g.length) y):fq f b i (g++y):=λh c a=>by
 rw[List.getElem?_append] at a;split at a
 ·exact d h c a
 have:=e _ c a;grind
theorem acQ {a:bm N} {d:N} (e:a[b]?=Y d):∃c f,a=c++d::f/\c.length=b:=by obtain⟨g,rfl⟩:=hJ.1 e;exact⟨a.take b,a.drop (b+1),by rw[List.getElem_cons_drop,kw],by grind⟩
theorem aX.sm {D:eD->X->Prop} {y C:bD}:∀{x:bm aZ} {τ:ai} {u:Loc} {h:ag5} {z:τ.den} {p:ahb} {A:ai} {v:Loc} {n:ag5},aS D y τ h z p->(∀a∈p,c5 y C a)->aX y τ u h x A v n->aX C τ u h x A v n
 |[],τ,_,_,_,_,_,_,_,_,_,b=>by cases τ<;>exact b
 |s::x,τ,u,h,z,p,A,v,n,g,d,b=>by
  cases τ<;>cases s<;>simp only[aX] at b
  case osl.idx t i=>
   obtain⟨a,w,U,F,o,rfl,N,q,f,r⟩:=b;obtain⟨m,Q,e,k⟩:=g;simp only[hP,ahm,b8] at e;obtain⟨rfl,rfl,rfl⟩:=e;rcases k with⟨j,_⟩|⟨E,O,K,j,rfl,ax,V,ad,P⟩
   ·cases j
   simp only[eU,ahB,b8] at j;obtain⟨rfl,rfl⟩:=j;obtain⟨I,R,G,H⟩:=P i z[i] (K[i]'(by omega)) (by grind) ac
   obtain rfl:=f.eq G aa;exact⟨a,w,_,F,o,bn,N,q,f.sm (d a ac),aX.sm H (λc l=>d c (g6 _ (lS.2 ⟨_,cO aa,l⟩))) r⟩
  case optr.deref t=>
   obtain⟨a,w,o,rfl,q,f,r⟩:=b;obtain⟨E,O,S,I,B,rfl,T,L,_,M⟩:=g;simp only[hP,aii,eU,ahB,b8] at B;obtain⟨rfl,rfl⟩:=B;obtain rfl:=f.eq L aa;exact⟨a,w,o,bn,q,f.sm (d a ac),aX.sm M (λc l=>d c (by grind)) r⟩
  case st.unst t=>exact aX.sm (τ:=t) g d b
  case pr.fst m a=>
   obtain⟨J,f2,rfl,e,k⟩:=g;exact aX.sm (τ:=m) e (λc l=>d c (by grind)) b
  case pr.snd m a=>
   obtain⟨J,f2,rfl,e,k⟩:=g;exact aX.sm (τ:=a) k (λc l=>d c (by grind)) b
def nD:bm aZ->bA
 |[]=>bq
 |.idx _::_=>bp
 |.deref::_=>bp
 |_::a=>nD a
def ha:bm aZ->bm aZ->bA
 |p,[]=>nD p
 |.idx _::p,.idx _::a=>ha p a
 |.deref::p,.deref::a=>ha p a
 |.unst::p,.unst::a=>ha p a
 |.fst::p,.fst::a=>ha p a
 |.snd::p,.snd::a=>ha p a
 |.fst::_,.snd::_=>bp
 |.snd::_,.fst::_=>bp
 |_,_=>bq
theorem aX.nO {a:Loc}:aX f d w g [] r a y↔d=r/\w=a/\g=y:=by cases d<;>exact ajE
def kV:bm aZ->bm aZ->bA
 |.deref::a,.deref::b=>kV a b
 |.unst::a,.unst::b=>kV a b
 |.fst::a,.fst::b=>kV a b
 |.snd::a,.snd::b=>kV a b
 |.fst::_,.snd::_=>bp
 |.snd::_,.fst::_=>bp
 |_,_=>bq
theorem uB (a:bm aZ):kV [] a=bq:=by cases a<;>rfl
theorem Ha:∀{p q:bm aZ},kV p q=bp->ha p q=bp
 |[],q,a=>by grind [uB]
 |s::p,[],a=>by cases s<;>cases a
 |s::p,b::q,a=>by cases s<;>cases b<;>first|(cases a;done)|exact Ha (p:=p) (q:=q) a|rfl
theorem uC:∀{p q:bm aZ} {τ:ai} {h j:τ.den} {k f:ai} {l:k.den} {i:f.den},kV p q=bp->e9 τ h p k l j->eN τ h q f i->eN τ j q f i
 |[],q,_,_,_,_,_,_,_,d,_,_=>by grind [uB]
 |s::p,[],_,_,_,_,_,_,_,d,_,_=>by cases s<;>cases d
 |s::p,m::q,τ,h,j,k,f,l,i,d,c,e=>by
  cases τ<;>cases s<;>simp only[e9] at c<;>cases m<;>first|(cases d;done)|(simp only[eN] at e;done)|skip
  case optr.deref.deref t=>exact uC (p:=p) (q:=q) (τ:=t) d c e
  case st.unst.unst t=>exact uC (p:=p) (q:=q) (τ:=t) d c e
  case pr.fst.fst a b=>
   obtain⟨g,c,rfl⟩:=c;exact uC (p:=p) (q:=q) (τ:=a) d c e
  case pr.snd.snd a b=>
   obtain⟨g,c,rfl⟩:=c;exact uC (p:=p) (q:=q) (τ:=b) d c e
  case pr.fst.snd a b=>
   obtain⟨g,c,rfl⟩:=c;exact e
  case pr.snd.fst a b=>
   obtain⟨g,c,rfl⟩:=c;exact e
theorem aS.sub {B:eD->X->Prop} {A:bD}:∀{p:bm aZ} {τ:ai} {z:Loc} {o:ag5} {m:τ.den} {q:ahb} {l:ai} {r:l.den} {y:Loc} {n:ag5},aS B A τ o m q->eN τ m p l r->aX A τ z o p l y n->∃d,aS B A l n r d/\∀b∈d,b∈q
 |[],τ,z,o,m,q,l,r,y,n,f,c,a=>by grind [aX.nO,eN.gz]
 |s::p,τ,z,o,m,q,l,r,y,n,f,c,a=>by
  cases τ<;>cases s<;>simp only[eN] at c<;>simp only[aX] at a
  case osl.idx t i=>
   obtain⟨J,D,c⟩:=c;obtain⟨G,Q,ap,V,I,e,u,L,v,a⟩:=a;obtain⟨T,U,rfl,f⟩:=f;rcases f with⟨_,rfl,_⟩|⟨F,P,C,rfl,rfl,an,ad,N,O⟩
   ·grind
   have am:i<m.length:=(hJ.1 D).1;obtain⟨d,E⟩:∃d,C[i]?=some d:=⟨C[i],bc aa⟩;obtain⟨H,M,w,x⟩:=O i J d D E;simp only[hP,ahm,eU,ahB,b8] at e;obtain⟨⟨rfl,rfl⟩,rfl,rfl⟩:=e;obtain rfl:=v.eq w aa;obtain⟨g,j,k⟩:=aS.sub (p:=p) x c a;exact⟨g,j,λb h=>g6 _ (lS.2 ⟨d,jd E,k b h⟩)⟩
  case optr.deref t=>
   obtain⟨G,Q,I,e,L,v,a⟩:=a;obtain⟨F,P,d,H,rfl,rfl,M,w,N,x⟩:=f;simp only[hP,aii,eU,ahB,b8] at e;obtain⟨rfl,rfl⟩:=e;obtain rfl:=v.eq w aa;obtain⟨g,j,k⟩:=aS.sub (p:=p) x c a;exact⟨g,j,λb h=>g6 _ (k b h)⟩
  case st.unst t=>exact aS.sub (p:=p) (τ:=t) f c a
  case pr.fst R S=>
   obtain⟨K,f2,rfl,e,u⟩:=f;obtain⟨g,j,k⟩:=aS.sub (p:=p) e c a;exact⟨g,j,λb h=>rX _ (k b h)⟩
  case pr.snd R S=>
   obtain⟨K,f2,rfl,e,u⟩:=f;obtain⟨g,j,k⟩:=aS.sub (p:=p) u c a;exact⟨g,j,λb h=>lm _ (k b h)⟩
theorem zN:∀(am:bm aZ) {τ:ai} {loc:Loc} {u:ag5} {a0:τ.den} {fl:ahb} {F:ai} {i2:F.den},aS e f τ u a0 fl->pE f loc u τ.size->fl.Nodup->(∀g d,loc=Y (g,d)->g∉fl/\∀q,¬e q g)->(∀g∈fl,∀q,¬e q g)->eN τ a0 am F i2->∃y S bl U,aX f τ loc u am F y S/\aS e f F S i2 bl/\pE f y S F.size/\fl.Perm (bl++U)/\(∀m h,y=Y (m,h)->(∃d,loc=Y (m,d)/\d<=h/\h+F.size<=d+τ.size)\/m∈U)/\(∀(
   s:bD) (K:eD->X->Prop) (D:ag5) (z:F.den) (V:ahb) (d1:τ.den),
   (∀q g,e q g->K q g)->(∀g,(∃q,e q g)\/g∈U\/(∃d,loc=Y (g,d))->rP f s y F.size g)->
   aS K s F D z V->(y=bo->am≠[]->D=S)->(∀g d,y=Y (g,d)->fq s g d D)->e9 τ a0 am F z d1->
   ∃n N,aS K s τ n d1 N/\(am=[]->n=D)/\(loc=bo->(y≠bo\/D=S)->n=u)/\(∀g d,loc=Y (g,d)->fq s g d n)/\N.Perm (V++U)/\aX s τ loc n am F y D/\∀(c:bm aZ) (Q:ai) (P:Loc) (M:ag5),ha am c=bp->aX f τ loc u c Q P M->aX s τ loc n c Q P M)/\
  (∀(c:bm aZ) (a3:ai) (z:a3.den) (ap:Loc) (dl:ag5) (f2:ahb),kV am c=bp->a3.kK=bp->eN τ a0 c a3 z->aX f τ loc u c a3 ap dl->aS e f a3 dl z f2->∀b∈f2,b∈U/\∀m h,y=Y (m,h)->b≠m):=by
 intro am
 induction am with
 |nil=>
  intro τ loc u a0 fl F i2 el cv d9 ad c1 H;obtain⟨rfl,rfl⟩:=eN.gz.1 H;refine⟨loc,u,fl,[],(by cases τ<;>exact⟨bn,bn,bn⟩),el,cv,ac,λm h a=>.inl ⟨h,a,aa,aa⟩,?_,λc _ _ _ _ _ a=>by grind [uB]⟩;intro s K D z V d1 _ _ A _ O B;obtain⟨_,rfl⟩:=e9.gz.1 B;exact⟨D,V,A,λ_=>rfl,λcs a=>a.resolve_left (λc=>c cs),O,ac,(by cases τ<;>exact⟨bn,bn,bn⟩),λc _ _ _ o=>by grind [ha,nD]⟩
 |cons pm am hc=>
  intro τ loc u a0 fl F i2 el cv d9 ad c1 H;cases τ<;>cases pm<;>simp only[eN] at H
  case osl.idx t i=>
   obtain⟨a4,fs,H⟩:=H;obtain⟨ps,ex,rfl,el⟩:=el;rcases el with⟨_,rfl,_⟩|⟨g,d,f7,rfl,rfl,mt,op,io,lf⟩
   ·simp at fs
   have lb:i<a0.length:=(hJ.1 fs).1;obtain⟨gf,mc⟩:∃gf,f7[i]?=some gf:=⟨f7[i],bc aa⟩;obtain⟨f9,jp,f5,kd⟩:=lf i a4 gf fs mc;obtain⟨d0,i1,ft,pl⟩:=acQ mc;have ro:∀w,w<a0.length->d+w*t.size+t.size<=d+ex*t.size:=λw o=>(by have:(w+1)*t.size<=ex*t.size:=iz _ aa;grind);have f6:pE f (Y (g,d+i*t.size)) f9 t.size:=(by rintro R r a;simp only[eU,im] at a;obtain⟨rfl,rfl⟩:=a;exact⟨f5,λx l O=>io x aa (by grind)⟩);have le:=d9;rw[ft] at le;simp only[yj,lQ,jZ,jY,h8,not_or] at le;obtain⟨⟨ol,f3,on⟩,lc,⟨fT,f8,or⟩,os⟩:=le;obtain⟨y,S,bl,U,d3,d4,d5,G,T,d6,fn⟩:=hc (loc:=Y (g,d+i*t.size)) kd f6 fT (by rintro R r a;simp only[eU,im] at a;obtain⟨rfl,rfl⟩:=a;exact⟨f3,c1 g ac⟩) (λb k=>c1 b (by rw[ft];simp[k])) H;refine⟨y,S,bl,g::(d0.flatten++(U++i1.flatten)),⟨g,d,_,ex,f9,bn,lb,jp,f5,d3⟩,d4,d5,?_,?_,?_,λc _ _ _ _ _ a=>by cases c with|nil=>cases a|cons I c=>cases I<;>cases a⟩
   ·rw[ft];simp only[yj,lQ];rw[tJ] at G|-;intro b;have:=G b;simp only[tF,ajG] at this|-;omega
   ·intro m h a;right;rcases T m h a with⟨r,l,_⟩|l
    ·simp only[eU,im] at l;rw[l.1];simp
    simp[l]
   intro s K D z V d1 bx v A ek d7 B;simp only[e9] at B;obtain⟨n7,gc,l2,B,rfl⟩:=B;obtain rfl:n7=a4:=(by rw[fs] at l2;exact(gD l2).symm);obtain⟨n,N,C,_,_,L,an,em,co⟩:=d6 s K D z V gc bx (by
     rintro b (a|a|⟨r,a⟩)
     ·exact v b (.inl a)
     ·exact v b (.inr (.inl (by simp[a])))
     simp only[eU,im] at a;exact v b (.inr (.inl (by rw[<-a.1];simp)))) A
    (by
     intro cs sz;exact ek cs ac) d7 B
   have ce:∀m h,y=Y (m,h)->(m=g/\d+i*t.size<=h/\h+F.size<=d+i*t.size+t.size)\/m∈gf:=by
    intro m h a;rcases T m h a with⟨r,l,O,ic⟩|l
    ·simp only[eU,im] at l;omega
    exact .inr (G.mem_iff.2 (by simp[l]))
   have fp:=v g (.inr (.inl ac));have gl:∀q b,e q b->K q b/\c5 f s b:=λq b k=>⟨bx q b k,(v b (.inl ⟨q,k⟩)).sm (λr a=>by
    rcases ce b r a with⟨rfl,_⟩|l
    ·exact c1 b ac q k
    exact c1 b (by rw[ft];simp[l]) q k)⟩
   have mz:∀(w:X) (ib:t.den) (bs:ahb),w≠i->a0[w]?=Y ib->f7[w]?=Y bs->∀d2:ag5,d2.length=t.size->fq f g (d+w*t.size) d2->fq s g (d+w*t.size) d2/\∀b∈bs,c5 f s b:=by
    intro w ib bs gs o ds d2 i0 hr;have rs:w<a0.length:=(hJ.1 o).1;have kg:∀b∈bs,b∈d0.flatten\/b∈i1.flatten:=by
     intro b k;rw[ft] at ds;rcases cS w d0.length with a|a
     ·rw[qy a] at ds;exact .inl (lS.2 ⟨bs,jd ds,k⟩)
     rw[pC a] at ds;obtain⟨c,E⟩:∃c,w-d0.length=c+1:=⟨w-d0.length-1,aa⟩;rw[E] at ds;simp only[vP] at ds;exact .inr (lS.2 ⟨bs,jd ds,k⟩)
    refine⟨?_,?_⟩
    ·intro x hw fz;have is:x<d2.length:=(hJ.1 fz).1;rw[fp.1]
     ·exact hr x hw fz
     intro h a;rcases ce g h a with⟨_,l,O⟩|l
     ·rcases Nat.lt_or_gt_of_ne gs with rt|rl
      ·left;have:(w+1)*t.size<=i*t.size:=iz _ aa;rw[nh,mR] at this;omega
      right;have:(i+1)*t.size<=w*t.size:=iz _ aa;rw[nh,mR] at this;omega
     exact absurd l f3
    intro b k;refine(v b (.inr (.inl ?_))).sm ?_
    ·rcases kg b k with a|a<;>simp[a]
    intro h a;rcases ce b h a with⟨rfl,_⟩|l
    ·rcases kg b k with a|a
     ·exact ol a
     exact on a
    rcases kg b k with a|a
    ·exact os b a b (.inl l) rfl
    exact or b l b a bn
   refine⟨[.slice (Y ⟨g,d,bo⟩) a0.length ex],g::(d0++N::i1).flatten,⟨Y ⟨g,d,bo⟩,ex,ac,.inr ⟨g,d,d0++N::i1,bn,bn,?_,by simpa using op,fp.MP io,?_⟩⟩,ac,λ_ _=>rfl,?_,?_,⟨g,d,_,ex,n,bn,lb,by rw[C.len],L g _ rfl,em⟩,?_⟩
   ·rw[ft] at mt;simpa using mt
   ·intro w ib bs o H;by_cases gs:w=i
    ·subst gs;rw[List.getElem?_set_self lb] at o;obtain rfl:=gD o;rw[pC aa,pl,oQ] at H;simp only[qz,eU] at H;subst H;exact⟨n,by rw[C.len],L g _ rfl,C⟩
    rw[List.getElem?_set_ne (λa=>gs a.symm)] at o;have ds:f7[w]?=Y bs:=by
     rw[ft];rcases cS w d0.length with a|a
     ·rw[qy a] at H|-;exact H
     rw[pC a] at H|-;obtain⟨c,E⟩:∃c,w-d0.length=c+1:=⟨w-d0.length-1,aa⟩;rw[E] at H|-;simpa using H
    obtain⟨d2,i0,hr,ll⟩:=lf w ib bs o ds;obtain⟨lo,lt⟩:=mz w ib bs gs o ds d2 i0 hr;exact⟨d2,i0,lo,ll.mono gl lt⟩
   ·intro R r a;have go:=(ad R r a).1;refine((cv R r a).1).sm ((v R (.inr (.inr ⟨r,a⟩))).sm ?_);intro h f1;rcases ce R h f1 with⟨rfl,_⟩|l
    ·exact go ac
    exact go (by rw[ft];simp[l])
   ·rw[tJ] at an|-;intro b;have:=an b;simp only[yj,lQ,tF,ajG] at this|-;omega
   intro c Q P M o E;cases c with
   |nil=>exact E
   |cons I c=>
    cases I<;>simp only[ha] at o<;>first|(cases o;done)|skip
    rename_i x;obtain⟨R,r,tf,ra,i3,l,O,ic,gi,ii⟩:=E;simp only[hP,ahm,eU,ahB,b8] at l;obtain⟨⟨rfl,rfl⟩,rfl,rfl⟩:=l;by_cases mp:x=i
    ·subst mp;obtain rfl:=gi.eq f5 aa;exact⟨g,d,_,ex,n,bn,O,C.len,L g _ rfl,co c Q P M o ii⟩
    have nn:a0[x]?=Y a0[x]:=bc O;have mo:f7[x]?=Y (f7[x]'(by omega)):=bc _
    obtain⟨d2,i0,hr,ll⟩:=lf x _ _ nn mo;obtain rfl:=gi.eq hr aa;obtain⟨lo,lt⟩:=mz x _ _ mp nn mo i3 ic gi;exact⟨g,d,_,ex,i3,bn,O,ic,lo,aX.sm ll lt ii⟩
  case optr.deref t=>
   obtain⟨g,d,gf,f9,rfl,rfl,jp,f5,io,kd⟩:=el;simp only[jZ] at d9;obtain⟨rg,oN⟩:=d9;have f6:pE f (Y (g,d)) f9 t.size:=(by rintro R r a;grind);obtain⟨y,S,bl,U,d3,d4,d5,G,T,d6,fn⟩:=hc (loc:=Y (g,d)) kd f6 oN (by grind) (λb k=>c1 b (by grind)) H;refine⟨y,S,bl,g::U,⟨g,d,f9,bn,jp,f5,d3⟩,d4,d5,?_,?_,?_,?_⟩
   rotate_left 3
   ·intro c a3 z ap dl f2 a fT d8 ci A b k;cases c with
    |nil=>cases a
    |cons I c=>
     cases I<;>first|(cases a;done)|skip
     simp only[aX] at ci;obtain⟨R,r,rb,ao,rd,of,ci⟩:=ci;simp only[hP,aii,eU,ahB,b8] at ao;obtain⟨rfl,rfl⟩:=ao;obtain rfl:=of.eq f5 aa;obtain⟨ax,J⟩:=fn c a3 z ap dl f2 a fT d8 ci A b k;exact⟨by simp[ax],J⟩
   ·rw[tJ] at G|-;intro b;have:=G b;simp only[tF,ajG] at this|-;omega
   ·intro m h a;right;rcases T m h a with⟨r,l,_⟩|l
    ·simp only[eU,im] at l;rw[l.1];simp
    simp[l]
   intro s K D z V d1 bx v A ek d7 B;simp only[e9] at B;obtain⟨n,N,C,_,_,L,an,em,co⟩:=d6 s K D z V d1 bx (by
     rintro b (a|a|⟨r,a⟩)
     ·exact v b (.inl a)
     ·exact v b (.inr (.inl (by simp[a])))
     simp only[eU,im] at a;exact v b (.inr (.inl (by rw[<-a.1];simp)))) A
    (λcs _=>ek cs ac) d7 B
   have fp:=v g (.inr (.inl ac));refine⟨[.pointer (Y ⟨g,d,bo⟩)],g::N,⟨g,d,N,n,bn,bn,C.len,L g d bn,fp.MP io,C⟩,ac,λ_ _=>rfl,?_,?_,⟨g,d,n,bn,C.len,L g d bn,em⟩,?_⟩
   ·intro R r a;have go:=(ad R r a).1;refine((cv R r a).1).sm ((v R (.inr (.inr ⟨r,a⟩))).sm ?_);intro h f1;rcases T R h f1 with⟨nx,l,_⟩|l
    ·simp only[eU,im] at l;exact go (by rw[l.1];simp)
    exact go (g6 _ (G.mem_iff.2 (by simp[l])))
   ·rw[tJ] at an|-;intro b;have:=an b;simp only[tF,ajG] at this|-;omega
   intro c Q P M o E;cases c with
   |nil=>exact E
   |cons I c=>
    cases I<;>simp only[ha] at o<;>first|(cases o;done)|skip
    obtain⟨R,r,i3,l,ic,gi,ii⟩:=E;simp only[hP,aii,eU,ahB,b8] at l;obtain⟨rfl,rfl⟩:=l;obtain rfl:=gi.eq f5 aa;exact⟨g,d,n,bn,C.len,L g d bn,co c Q P M o ii⟩
  case st.unst t=>
   obtain⟨y,S,bl,U,d3,d4,d5,G,T,d6,fn⟩:=hc (loc:=loc) (τ:=t) el cv d9 ad c1 H;refine⟨y,S,bl,U,d3,d4,d5,G,T,?_,?_⟩
   rotate_left 1
   ·intro c a3 z ap dl f2 a fT d8 ci A b k;cases c with
    |nil=>cases a
    |cons I c=>
     cases I<;>first|(cases a;done)|skip
     exact fn c a3 z ap dl f2 a fT d8 ci A b k
   intro s K D z V d1 bx v A ek d7 B;obtain⟨n,N,C,s0,hi,L,an,em,co⟩:=d6 s K D z V d1 bx v A (λcs _=>ek cs ac) d7 B;refine⟨n,N,C,ac,hi,L,an,em,?_⟩;intro c Q P M o E;cases c with
   |nil=>
    obtain⟨rfl,rfl,rfl⟩:=aX.nO.1 E;obtain⟨_,_,a4⟩:=aX.nO.1 (co [] t loc u (by simpa[ha,nD] using o) (aX.nO.2 ⟨bn,bn,bn⟩));exact aX.nO.2 ⟨bn,bn,a4⟩
   |cons I c=>
    cases I<;>simp only[ha] at o<;>first|(cases o;done)|skip
    exact co c Q P M o E
  case pr.fst j c2=>
   obtain⟨f0,f2,rfl,l,O⟩:=el;have lk:=l.len;have ap:=O.len;simp only[gh,nf] at lk ap;have f6:pE f loc (u.take j.size) j.size:=λg d a=>⟨(cv g d a).1.take,λx ax J=>(cv g d a).2 x ax (by show x<d+(j.size+c2.size);omega)⟩;simp only[jY] at d9;obtain⟨lc,fT,f8⟩:=d9;obtain⟨y,S,bl,U,d3,d4,d5,G,T,d6,fn⟩:=hc (loc:=loc) l f6 lc (λg d a=>⟨λc=>(ad g d a).1 (by simp[c]),(ad g d a).2⟩) (λb k=>c1 b (by grind)) H;refine⟨y,S,bl,U++f2,d3,d4,d5,?_,?_,?_,?_⟩
   rotate_left 3
   ·intro c a3 z ap dl i8 a gt d8 ci A b k;cases c with
    |nil=>cases a
    |cons I c=>
     cases I<;>first|(cases a;done)|skip
     ·obtain⟨ax,J⟩:=fn c a3 z ap dl i8 a gt d8 ci A b k;exact⟨by simp[ax],J⟩
     obtain⟨bs,C,L⟩:=aS.sub (p:=c) O d8 ci;have f4:b∈f2:=L b (by rw[<-aS.uniq gt A C];exact k);refine⟨by simp[f4],λm h fs a4=>?_⟩;subst a4;rcases T b h fs with⟨r,ao,_⟩|ao
     ·exact(ad b r ao).1 (by simp[f4])
     exact f8 b (G.mem_iff.2 (by simp[ao])) b f4 bn
   ·rw[tJ] at G|-;intro b;have:=G b;simp only[tF] at this|-;omega
   ·intro m h a;rcases T m h a with⟨r,ax,J,hs⟩|ax
    ·exact .inl ⟨r,ax,J,by show h+F.size<=r+(j.size+c2.size);omega⟩
    exact .inr (by simp[ax])
   intro s K D z V d1 bx v A ek d7 B;simp only[e9] at B;obtain⟨gc,B,rfl⟩:=B;obtain⟨n,N,C,_,hi,L,an,em,co⟩:=d6 s K D z V gc bx (by
     rintro b (a|a|a)
     ·exact v b (.inl a)
     ·exact v b (.inr (.inl (by simp[a])))
     exact v b (.inr (.inr a))) A (λcs _=>ek cs ac) d7 B
   have ce:∀m h,y=Y (m,h)->(∃d,loc=Y (m,d)/\d<=h/\h+F.size<=d+j.size)\/m∈f0:=λm h a=>(T m h a).imp id (λc=>G.mem_iff.2 (by simp[c]));have gl:∀q b,e q b->K q b/\c5 f s b:=λq b k=>⟨bx q b k,(v b (.inl ⟨q,k⟩)).sm (λr a=>by
    rcases ce b r a with⟨d,c,_⟩|c
    ·exact(ad b d c).2 q k
    exact c1 b (by simp[c]) q k)⟩
   have ne:∀b∈f2,c5 f s b:=λb k=>(v b (.inr (.inl (by simp[k])))).sm (λh a=>by
    rcases ce b h a with⟨d,c,_⟩|c
    ·exact(ad b d c).1 (by simp[k])
    exact f8 b c b k bn)
   have no:=C.len;refine⟨n++u.drop j.size,N++f2,⟨N,f2,bn,?_,?_⟩,ac,?_,?_,?_,(by
    show aX s j loc ((n++u.drop j.size).take j.size) am F y D;rw[yq aa,fK aa];exact em),?_⟩
   ·rw[yq aa,fK aa];exact C
   ·rw[rV aa,qw aa,iL];exact O.mono gl ne
   ·intro ax J;rw[hi ax J,kw]
   ·intro g d a;refine(L g d a).append ?_;rw[no];intro x hw fz;have fp:=v g (.inr (.inr ⟨d,a⟩));have is:x<(u.drop j.size).length:=(hJ.1 fz).1;simp only[nf] at is;rw[fp.1]
    ·exact((cv g d a).1.drop) x hw fz
    intro h f1;rcases ce g h f1 with⟨nx,ax,J,hs⟩|c
    ·rw[a] at ax;simp only[eU,im,aiD] at ax;omega
    exact absurd (by simp[c]) (ad g d a).1
   ·rw[tJ] at an|-;intro b;have:=an b;simp only[tF] at this|-;omega
   intro c Q P M o E;have ao:(n++u.drop j.size).take j.size=n:=(by rw[yq aa,fK aa]);have ge:(n++u.drop j.size).drop j.size=u.drop j.size:=(by rw[rV aa,qw aa,iL]);cases c with
   |nil=>
    obtain⟨rfl,rfl,rfl⟩:=aX.nO.1 E;obtain⟨_,_,a4⟩:=aX.nO.1 (co [] j loc (u.take j.size) (by simpa[ha,nD] using o) (aX.nO.2 ⟨bn,bn,bn⟩));exact aX.nO.2 ⟨bn,bn,by rw[a4,kw]⟩
   |cons I c=>
    cases I<;>simp only[ha] at o<;>first|(cases o;done)|skip
    ·show aX s j loc ((n++u.drop j.size).take j.size) c Q P M;rw[ao];exact co c Q P M o E
    show aX s c2 (loc.map λc=>(c.1,c.2+j.size)) ((n++u.drop j.size).drop j.size) c Q P M;rw[ge];exact aX.sm O ne E
  case pr.snd j c2=>
   obtain⟨f0,f2,rfl,l,O⟩:=el;have lk:=l.len;have ap:=O.len;simp only[gh,nf] at lk ap;have f6:pE f (loc.map λc=>(c.1,c.2+j.size)) (u.drop j.size) c2.size:=by
    intro g d a;cases loc with
    |none=>grind
    |some c=>
     obtain⟨pv,av⟩:=c;simp only[jo,eU,im] at a;obtain⟨rfl,rfl⟩:=a;exact⟨(cv _ _ rfl).1.drop,λx ax J=>(cv _ _ rfl).2 x aa (by show x<av+(j.size+c2.size);omega)⟩
   simp only[jY] at d9;obtain⟨lc,fT,f8⟩:=d9;have f3:∀g d,(loc.map λc=>(c.1,c.2+j.size))=Y (g,d)->∃av,loc=Y (g,av)/\d=av+j.size:=by
    intro g d a;cases loc with
    |none=>grind
    |some c=>
     grind
   obtain⟨y,S,bl,U,d3,d4,d5,G,T,d6,fn⟩:=hc (loc:=loc.map λc=>(c.1,c.2+j.size)) O f6 fT (λg d a=>by grind) (λb k=>c1 b (by grind)) H;refine⟨y,S,bl,U++f0,d3,d4,d5,?_,?_,?_,?_⟩
   rotate_left 3
   ·intro c a3 z ap dl i8 a gt d8 ci A b k;cases c with
    |nil=>cases a
    |cons I c=>
     cases I<;>first|(cases a;done)|skip
     ·obtain⟨bs,C,L⟩:=aS.sub (p:=c) l d8 ci;have f4:b∈f0:=L b (by rw[<-aS.uniq gt A C];exact k);refine⟨by simp[f4],λm h fs a4=>?_⟩;subst a4;rcases T b h fs with⟨r,ao,_⟩|ao
      ·obtain⟨av,ge,_⟩:=f3 _ _ ao;exact(ad b av ge).1 (by simp[f4])
      exact f8 b f4 b (G.mem_iff.2 (by simp[ao])) rfl
     obtain⟨ax,J⟩:=fn c a3 z ap dl i8 a gt d8 ci A b k;exact⟨by simp[ax],J⟩
   ·rw[tJ] at G|-;intro b;have:=G b;simp only[tF] at this|-;omega
   ·intro m h a;rcases T m h a with⟨r,ax,J,hs⟩|ax
    ·obtain⟨av,hv,rfl⟩:=f3 _ _ ax;exact .inl ⟨av,hv,aa,by show h+F.size<=av+(j.size+c2.size);omega⟩
    exact .inr (by simp[ax])
   intro s K D z V d1 bx v A ek d7 B;simp only[e9] at B;obtain⟨gc,B,rfl⟩:=B;obtain⟨n,N,C,_,hi,L,an,em,co⟩:=d6 s K D z V gc bx (by
     rintro b (a|a|⟨d,a⟩)
     ·exact v b (.inl a)
     ·exact v b (.inr (.inl (by simp[a])))
     obtain⟨av,hv,rfl⟩:=f3 _ _ a;exact v b (.inr (.inr ⟨av,hv⟩))) A (λcs _=>ek cs ac) d7 B
   have ce:∀m h,y=Y (m,h)->(∃d,loc=Y (m,d)/\d+j.size<=h/\h+F.size<=d+j.size+c2.size)\/m∈f2:=λm h a=>by
    rcases T m h a with⟨r,ax,J,hs⟩|c
    ·obtain⟨av,hv,rfl⟩:=f3 _ _ ax;exact .inl ⟨av,hv,J,hs⟩
    exact .inr (G.mem_iff.2 (by simp[c]))
   have gl:∀q b,e q b->K q b/\c5 f s b:=λq b k=>⟨bx q b k,(v b (.inl ⟨q,k⟩)).sm (λr a=>by
    rcases ce b r a with⟨d,c,_⟩|c
    ·exact(ad b d c).2 q k
    exact c1 b (by simp[c]) q k)⟩
   have nd:∀b∈f0,c5 f s b:=λb k=>(v b (.inr (.inl (by simp[k])))).sm (λh a=>by
    rcases ce b h a with⟨d,c,_⟩|c
    ·exact(ad b d c).1 (by simp[k])
    exact f8 b k b c bn)
   have no:=C.len;refine⟨u.take j.size++n,f0++N,⟨f0,N,bn,?_,?_⟩,ac,?_,?_,?_,(by
    show aX s c2 (loc.map λc=>(c.1,c.2+j.size)) ((u.take j.size++n).drop j.size) am F y D;rw[rV (by simp;omega),qw (by simp;omega),iL];exact em),?_⟩
   ·rw[yq (by simp;omega),aly,alz];exact l.mono gl nd
   ·rw[rV (by simp;omega),qw (by simp;omega),iL];exact C
   ·intro ax J;rw[hi (by rw[ax];rfl) J,kw]
   ·intro g d a;have fp:=v g (.inr (.inr ⟨d,a⟩));have ok:fq s g d (u.take j.size):=by
     intro x hw fz;have is:x<(u.take j.size).length:=(hJ.1 fz).1;simp only[gh] at is;rw[fp.1]
     ·exact((cv g d a).1.take) x hw fz
     intro h f1;rcases ce g h f1 with⟨nx,ax,J,hs⟩|c
     ·rw[a] at ax;simp only[eU,im,aiD] at ax;omega
     exact absurd (by simp[c]) (ad g d a).1
    refine ok.append ?_;have:=L g (d+j.size) (by rw[a];rfl);rwa[gh,h1 aa]
   ·rw[tJ] at an|-;intro b;have:=an b;simp only[tF] at this|-;omega
   intro c Q P M o E;have ao:(u.take j.size++n).take j.size=u.take j.size:=(by rw[yq (by simp;omega),aly,alz]);have ge:(u.take j.size++n).drop j.size=n:=(by rw[rV (by simp;omega),qw (by simp;omega),iL]);cases c with
   |nil=>
    obtain⟨rfl,rfl,rfl⟩:=aX.nO.1 E;obtain⟨_,_,a4⟩:=aX.nO.1 (co [] c2 (loc.map λc=>(c.1,c.2+j.size)) (u.drop j.size) (by simpa[ha,nD] using o) (aX.nO.2 ⟨bn,bn,bn⟩));exact aX.nO.2 ⟨bn,bn,by rw[a4,kw]⟩
   |cons I c=>
    cases I<;>simp only[ha] at o<;>first|(cases o;done)|skip
    ·show aX s j loc ((u.take j.size++n).take j.size) c Q P M;rw[ao];exact aX.sm l nd E
    show aX s c2 (loc.map λc=>(c.1,c.2+j.size)) ((u.take j.size++n).drop j.size) c Q P M;rw[ge];exact co c Q P M o E
theorem Dy (i:bm aZ) {loc:Loc} {u:d.den} {τ':ai} {y:τ'.den} (D:aS e f d g u k) (E:pE f loc g d.size) (F:k.Nodup) (G:∀a b,loc=Y (a,b)->a∉k/\∀h,¬e h a) (H:∀a∈k,∀h,¬e h a) (I:eN d u i τ' y):∃c l r o,aX f d loc g i τ' c l/\aS e f τ' l y r/\pE f c l τ'.size/\k.Perm (r++o)/\(∀q s,c=Y (q,s)->(∃b,loc=Y (q,b)/\b<=s/\s+τ'.size<=b+d.size)\/q∈o)/\(∀(
   j:bD) (p:eD->X->Prop) (m:ag5) (B:τ'.den) (w:ahb) (A:d.den),
   (∀h a,e h a->p h a)->(∀a,(∃h,e h a)\/a∈o\/(∃b,loc=Y (a,b))->rP f j c τ'.size a)->
   aS p j τ' m B w->(c=bo->i≠[]->m=l)->(∀a b,c=Y (a,b)->fq j a b m)->e9 d u i τ' B A->
   ∃n x,aS p j d n A x/\(i=[]->n=m)/\(loc=bo->(c≠bo\/m=l)->n=g)/\(∀a b,loc=Y (a,b)->fq j a b n)/\x.Perm (w++o)/\aX j d loc n i τ' c m/\∀(t:bm aZ) (C:ai) (z:Loc) (v:ag5),ha i t=bp->aX f d loc g t C z v->aX j d loc n t C z v):=by
 obtain⟨c,l,r,o,J,K,L,M,N,O,_⟩:=zN i D E F G H I;grind
def bf (a c:X->Prop):eD->X->Prop
 |.bh=>a
 |.eE=>λb=>a b\/c b
theorem m0 {a:X->Prop} {d:eD} (c:bf a j d b):a b\/j b:=by cases d;exact .inl c;exact c
inductive aj where
 |dead
 |val (τ:ai) (x:τ.den)
 |ref (id:X) (p:bm aZ)
 |addr (id:X) (p:bm aZ)
 |view (id:X) (p:bm aZ) (lo hi:X)
 |app (id:X) (p:bm aZ) (τ:ai) (ys:bm τ.den) (own:ahb)
 |df (v:Value)
 |ff (l:bm aj)
 |agg (l:bm aj)
 |eA (f:X) (l:bm aj)
 |ent (id:X) (p:bm aZ) (k:Z)
 |hA (a:aj)
variable{V:aj}
abbrev aD:=(a:ai)×a.den
variable{u:bm (X×aD)}{P:aD}
structure aM where
 g:bm (X×aj)
 h:bm (X×aD)
variable{O:aM}
def aq {a:Type}:bm (X×a)->X->bv a
 |[],_=>bo
 |(k,v)::r,n=>bif bI k n then Y v else aq r n
theorem dg (b:X) (d:N) (c:bm (X×N)) (a:X):aq ((b,d)::c) a=if b=a then Y d else aq c a:=by
 show(bif bI b a then Y d else aq c a)=_;by_cases e:b=a
 ·simp_all
 rw[aw e];grind [ahZ]
def gt (a:bm (X×aj)) (b:X):aj:=match aq a b with|some c=>c|none=>.dead
structure eZ where
 I0:X->Prop
 B:X->Prop
 F0:X->Prop
 w0:bD
 n:X
 pin:ahb
 vs:X->Value
variable{U:eZ}
def eZ.ok (a:eZ) (d:X):Prop:=d<a.n/\d∉a.pin
inductive cP (M:eD->X->Prop) (w:bD) (h:bm (X×aD)) (rt:X->ag5) (fp:X->ahb):aj->Value->Prop
 |dead (v:Value):cP M w h rt fp .dead v
 |df (v:Value):cP M w h rt fp (.df v) v
 |val {τ:ai} {x:τ.den} {cs:ag5} (r:aS M w τ cs x []):cP M w h rt fp (.val τ x) (cW τ cs)
 |ref {id:X} {p:bm aZ} {t:aD} {τ':ai} {loc:Loc} {cs:ag5} (uO:aq h id=Y t) (DL:aX w t.1 bo (rt id) p τ' loc cs):cP M w h rt fp (.ref id p) (cW τ' cs)
 |addr {id:X} {p:bm aZ} {t:aD} {τ':ai} {b o:X} {cs:ag5} (uO:aq h id=Y t) (DL:aX w t.1 bo (rt id) p τ' (Y (b,o)) cs):cP M w h rt fp (.addr id p) (.pointer (Y ⟨b,o,bo⟩))
 |view {id:X} {p:bm aZ} {lo hi:X} {t:aD} {τ':ai} {loc:Loc} {b o len cap:X} (uO:aq h id=Y t) (DL:aX w t.1 bo (rt id) p (.osl τ') loc [.slice (Y ⟨b,o,bo⟩) len cap]) (DI:lo<=hi) (VI:hi<=len) (aem:len<=cap):cP M w h rt fp (.view id p lo hi) (.slice (Y ⟨b,if cap=lo then o else o+lo*τ'.size,bo⟩) (hi-lo) (cap-lo))
 |ma (id:X) (p:bm aZ):cP M w h rt fp (.view id p 0 0) (.slice bo 0 0)
 |app {id:X} {p:bm aZ} {τ:ai} {ys:bm τ.den} {own:ahb} {t:aD} {loc:Loc} {tY:ag5} {xs:bm τ.den} {f1 f2:ahb} {v:Value} (uO:aq h id=Y t) (aep:τ.kK=bp) (DL:aX w t.1 bo (rt id) p (.osl τ) loc tY) (M7:eN t.1 t.2 p (.osl τ) xs) (DI:aS M w (.osl τ) tY xs f1) (aen:∀b∈f1,b∈fp id) (VI:aS M w (.osl τ) [v] (xs++ys) f2) (aes:∀i∈own,i≠id/\∃u,aq h i=Y u) (aet:∀b∈f2,b∈f1\/∃i∈own,b∈fp i) (aeq:f2.Nodup):cP M w h rt fp (.app id p τ ys own) v
 |ff {l:bm aj} {vs:ag3} (DK:l.length=vs.size) (DJ:∀(i:X) (a:aj) (v:Value),l[i]?=Y a->vs[i]?=Y v->cP M w h rt fp a v):cP M w h rt fp (.ff l) (.tuple vs)
 |agg {l:bm aj} {vs:ag5} (DK:l.length=vs.length) (DJ:∀(i:X) (a:aj) (v:Value),l[i]?=Y a->vs[i]?=Y v->cP M w h rt fp a v):cP M w h rt fp (.agg l) (.agg (vs.map λv=>v.cells.toList).flatten.toArray)
 |ent {id:X} {p:bm aZ} {k:Z} {t:aD} {τ':ai} {loc:Loc} {b c i:X} {e2:bU cm} {e:cm} (uO:aq h id=Y t) (DL:aX w t.1 bo (rt id) p (.mp τ') loc [.map (Y b)]) (VM:b∈fp id) (M8:iX w b=Y (e2,c)) (hi:e2[i]?=Y e) (aeo:e.key=.int .i64 k):cP M w h rt fp (.ent id p k) (.int .i64 (e.born:Z))
 |eA {f:X} {l:bm aj} {vs:ag3} (DK:l.length=vs.size) (DJ:∀(i:X) (a:aj) (v:Value),l[i]?=Y a->vs[i]?=Y v->cP M w h rt fp a v):cP M w h rt fp (.eA f l) (.func (.func f) #[] vs)
 |hA {a:aj} {v:Value} {b:X} (VM:M .bh b) (hc:w.cell? ⟨b,0,bo⟩=Y v) (aer:v.oneCell'=bp) (HM:cP M w h rt fp a v):cP M w h rt fp (.hA a) (.pointer (Y ⟨b,0,bo⟩))
structure cM (C:eZ) (st:aM) (J0:ag3) (w:bD) (I:X->Prop) (rt:X->ag5) (fp:X->ahb):Prop where
 n:J0.size=C.n
 i0:∀b,C.I0 b->I b
 i1:∀b,I b->C.I0 b\/C.w0.heap.size<=b\/C.F0 b
 ib:∀b,I b\/C.B b->b<w.heap.size
 tree:∀id t,aq st.h id=Y t->aS (bf I C.B) w t.1 (rt id) t.2 (fp id)/\(fp id).Nodup/\∀b∈fp id,¬I b/\¬C.B b/\b<w.heap.size/\(C.w0.heap.size<=b\/C.F0 b)
 dis:∀i j t u,aq st.h i=Y t->aq st.h j=Y u->i≠j->∀b∈fp i,b∉fp j
 tmp:∀k,cP (bf I C.B) w st.h rt fp (gt st.g k) (J0.getD k bW)
 frame:∀b,b<C.w0.heap.size->¬C.F0 b->w.heap[b]?=C.w0.heap[b]?
 evo:∀b,b<C.w0.heap.size->kQ C.w0 w b
 size:C.w0.heap.size<=w.heap.size
 os:w.os=C.w0.os
 tape:w.tape=C.w0.tape
 output:w.output=C.w0.output
 pin:∀k∈C.pin,J0.getD k bW=C.vs k
def gN (a:eZ) (e:aM) (f:ag3) (g:bD):Prop:=∃b d c,cM a e f g b d c
structure hn (w w':bD):Prop where
 os:w'.os=w.os
 tape:w'.tape=w.tape
 output:w'.output=w.output
 size:w.heap.size<=w'.heap.size
 heap:∀b,b<w.heap.size->w'.heap[b]?=w.heap[b]?
def hn.refl (a:bD):hn a a:=⟨bn,bn,bn,bd _,λ_ _=>rfl⟩
def hn.trans {c d e:bD} (a:hn c d) (b:hn d e):hn c e:=
 ⟨b.os.trans a.os,b.tape.trans a.tape,b.output.trans a.output,dh a.size b.size,λg f=>(b.heap g (je f a.size)).trans (a.heap g f)⟩
def hn.drew {b c:bD} (a:hn b c):hn b c.drew:=⟨a.os,a.tape,a.output,a.size,a.heap⟩
theorem hn.alloc (a:bD) (b:Obj):hn a (a.alloc b):=⟨bn,bn,bn,ac,λc d=>by
 show(a.heap.push b)[c]?=_;grind⟩
theorem cP.mono {u x:eD->X->Prop} {r t:bD} {v z:bm (X×aD)} {w D:X->ag5} {s y:X->ahb} (n:∀B c,u B c->x B c/\c5 r t c) (d:∀id m,aq v id=Y m->aS u r m.1 (w id) m.2 (s id)/\∀c∈s id,c5 r t c) {j:aj} {b:Value} (F:cP u r v w s j b) (o:∀id m,aq v id=Y m->aq z id=Y m/\D id=w id/\y id=s id):cP x t z D y j b:=by
 induction F with
 |dead b=>exact .dead b
 |df b=>exact .df b
 |val S=>exact .val (S.mono n ac)
 |ref a g=>
  obtain⟨h,i,_⟩:=o _ _ a;exact .ref h (by rw[i];exact g.sm (d _ _ a).1 (d _ _ a).2)
 |addr a g=>
  obtain⟨h,i,_⟩:=o _ _ a;exact .addr h (by rw[i];exact g.sm (d _ _ a).1 (d _ _ a).2)
 |ma id C=>exact .ma id C
 |view a g e f E=>
  obtain⟨h,i,_⟩:=o _ _ a;exact .view h (by rw[i];exact g.sm (d _ _ a).1 (d _ _ a).2) e f E
 |@app id C τ av an m am T ap U f2 b a N g J e H f V ad O=>
  obtain⟨h,i,R⟩:=o _ _ a;obtain⟨Q,A⟩:=d _ _ a;have I:∀c∈f2,c5 r t c:=λc k=>(by grind);refine .app h N (by rw[i];exact g.sm Q A) J (e.mono n (λc k=>A c (H c k))) (by grind) (f.mono n I) ?_ ?_ O
  ·grind
  grind
 |ent a g k M K L=>
  obtain⟨h,i,R⟩:=o _ _ a;exact .ent h (by rw[i];exact g.sm (d _ _ a).1 (d _ _ a).2) (by grind) (by rw[((d _ _ a).2 _ k).2];exact M) K L
 |ff p _ l=>exact .ff p (λq j b e f=>l q j b e f)
 |agg p _ l=>exact .agg p (λq j b e f=>l q j b e f)
 |eA p _ l=>exact .eA p (λq j b e f=>l q j b e f)
 |hA k G P _ l=>exact .hA (n _ _ k).1 (by rw[((n _ _ k).2.1 0).1];exact G) P l
def aU (c:bm (X×aj)):bM->aj
 |.tmp g=>gt c g
 |.const (.int d e)=>.val (.int d) e
 |.const (.bool a)=>.val .bool a
 |.const (.string f)=>.val .str f
 |.const h=>.df h
 |.func b=>.eA b []
 |.global _=>.dead
def cP.int {c:eD->X->Prop} {g:bD} {e:bm (X×aD)} {f:X->ag5} {d:X->ahb} (a:cx) (b:Z):cP c g e f d (.val (.int a) b) (.int a b):=
 .val (τ:=.int a) (cs:=[.int a b]) ⟨bn,bn⟩
def cP.bool {b:eD->X->Prop} {f:bD} {d:bm (X×aD)} {e:X->ag5} {c:X->ahb} (a:bA):cP b f d e c (.val .bool a) (.bool a):=
 .val (τ:=.bool) (cs:=[.bool a]) ⟨bn,bn⟩
def cP.str {b:eD->X->Prop} {f:bD} {d:bm (X×aD)} {e:X->ag5} {c:X->ahb} (a:ByteArray):cP b f d e c (.val .str a) (.string a):=
 .val (τ:=.str) (cs:=[.string a]) ⟨bn,bn⟩
def cM.aU {e:eZ} {c:aM} {a:Act} {l:bD} {f:X->Prop} {j:X->ag5} {i:X->ahb} (m:cM e c a.tmps l f j i) (d:bM):cP (bf f e.B) l c.h j i (aU c.g d) (a.eval d):=by
 cases d with
 |tmp o=>exact m.tmp o
 |const p=>
  cases p<;>simp only[jm.aU,Act.eval]
  case int k n=>exact .int k n
  case bool b=>exact .bool b
  case string s=>exact .str s
  all_goals exact .df _
 |func q=>exact .eA (vs:=#[]) ac ac
 |global r=>exact .dead _
theorem kH {d:Type}:∀(c b:bm (X×d)) (a:X),aq (c++b) a=(aq c a).or (aq b a)
 |[],b,a=>by simp[aq]
 |(k,v)::c,b,a=>by rw[nW,dg,dg,kH c b a];grind
theorem iV (c:X) (b:aj) (d:bm (X×aj)) (a:X):gt ((c,b)::d) a=if c=a then b else gt d a:=by grind [dg,gt]
theorem cM.put (a:cM U O z f j p q) (e:U.ok b) {av:aj} {v:Value} (l:cP (bf j U.B) f O.h p q av v):cM U ⟨(b,av)::O.g,O.h⟩ (z.setIfInBounds b v) f j p q where
 n:=by simpa using a.n
 i0:=a.i0
 i1:=a.i1
 ib:=a.ib
 tree:=a.tree
 dis:=a.dis
 tmp:=λc=>by
  show cP _ _ _ _ _ (gt ((b,av)::O.g) c) _;unfold gt;rw[dg];have k:b<z.size:=(by rw[a.n];exact e.1);by_cases d:b=c
  ·simp_all
  rw[aw d];have:(z.setIfInBounds b v).getD c bW=z.getD c undef:=(by simp_all);rw[this];exact a.tmp c
 frame:=a.frame
 evo:=a.evo
 size:=a.size
 os:=a.os
 tape:=a.tape
 output:=a.output
 pin:=λc d=>by have:b≠c:=λi=>e.2 (i▸d);rw[<-a.pin c d];simp_all
structure vU (C:eZ) (st:aM) (w w':bD) (I':X->Prop) (new:bm (X×aD)) (rtn:X->ag5) (fpn:X->ahb):Prop where
 tree:∀id t,aq new id=Y t->aq st.h id=bo/\aS (bf I' C.B) w' t.1 (rtn id) t.2 (fpn id)/\(fpn id).Nodup/\∀b∈fpn id,w.heap.size<=b/\b<w'.heap.size/\¬I' b
 dis:∀i j t u,aq new i=Y t->aq new j=Y u->i≠j->∀b∈fpn i,b∉fpn j
def vU.nil:vU U O f m j [] p q:=
 ⟨(λ_ _ a=>by cases a),(λ_ _ _ _ a=>by cases a)⟩
theorem vU.one {C:eZ} {st:aM} {w':bD} {I':X->Prop} {id:X} {t:aD} {cs:ag5} {f:ahb} (l:aq st.h id=bo) (n:aS (bf I' C.B) w' t.1 cs t.2 f) (j:f.Nodup) (i:∀a∈f,m.heap.size<=a/\a<w'.heap.size/\¬I' a):vU C st m w' I' [(id,t)] (λ_=>cs) (λ_=>f) where
 tree:=λe g b=>by
  rw[dg] at b;split at b
  ·grind
  cases b
 dis:=λe o p g c d k=>by
  rw[dg] at c d;split at c
  ·split at d
   ·omega
   cases d
  cases c
def fh (d:bm (X×aD)) {a:Type} (b c:X->a):X->a:=λid=>match aq d id with|some _=>b id|none=>c id
theorem cM.ext {I':X->Prop} {rtn:X->ag5} {fpn:X->ahb} (d:cM U O z f j p q) (e:hn f m) (y:∀a,j a->I' a) (A:∀a,I' a->j a\/(f.heap.size<=a/\a<m.heap.size)) {new:bm (X×aD)} (s:vU U O f m I' new rtn fpn):cM U ⟨O.g,new++O.h⟩ z m I' (fh new rtn p) (fh new fpn q):=by
 have I:∀w a,bf j U.B w a->bf I' U.B w a/\c5 f m a:=λw a b=>by
  refine⟨?_,.of_heap (e.heap a (d.ib a (m0 b)))⟩;cases w
  ·exact y a b
  exact b.imp (y a) id
 have S:∀id c,aq O.h id=Y c->aq (new++O.h) id=Y c/\fh new rtn p id=p id/\fh new fpn q id=q id:=λid c k=>by
  have:aq new id=bo:=by
   cases P:aq new id with
   |none=>rfl
   |some l=>have:=(s.tree id l P).1;grind
  grind [kH,fh]
 have C:∀id c,aq (new++O.h) id=Y c->(aq new id=Y c/\fh new rtn p id=rtn id/\fh new fpn q id=fpn id)\/(aq O.h id=Y c/\fh new rtn p id=p id/\fh new fpn q id=q id):=λid c k=>(by grind [kH,aq,fh]);have J:∀id c,aq O.h id=Y c->∀a∈q id,c5 f m a:=λid c k a b=>.of_heap (e.heap a ((d.tree id c k).2.2 a b).2.2.1);refine{n:=d.n,i0:=λa b=>y a (d.i0 a b),i1:=?_,ib:=?_,tree:=?_,dis:=?_,tmp:=?_,frame:=?_,evo:=λa b=>(d.evo a b).trans (.of_heap (e.heap a (je b d.size))),size:=dh d.size e.size,os:=e.os.trans d.os,tape:=e.tape.trans d.tape,output:=e.output.trans d.output,pin:=d.pin}
 ·intro a b;rcases A a b with b|⟨b,_⟩
  ·exact d.i1 a b
  exact .inr (.inl (dh d.size b))
 ·intro a b;rcases b with b|b
  ·rcases A a b with b|⟨_,b⟩
   ·exact je (d.ib a (.inl b)) e.size
   omega
  exact je (d.ib a (.inr b)) e.size
 ·intro id c k;rcases C id c k with⟨i,x,o⟩|⟨i,x,o⟩
  ·obtain⟨_,ax,D,E⟩:=s.tree id c i;rw[x,o];refine⟨ax,D,λa b=>?_⟩;obtain⟨F,G,H⟩:=E a b;exact⟨H,λM=>by have:=d.ib a (.inr M);omega,G,.inl (dh d.size F)⟩
  obtain⟨ax,D,E⟩:=d.tree id c i;rw[x,o];refine⟨ax.mono I (J id c i),D,λa b=>?_⟩;obtain⟨F,G,H,aE⟩:=E a b;exact⟨λr=>(A a r).elim F (λV=>by omega),G,je H e.size,aE⟩
 ·intro t u c l Q R K a b;rcases C t c Q with⟨i,_,o⟩|⟨i,_,o⟩<;>rcases C u l R with⟨v,_,L⟩|⟨v,_,L⟩<;>rw[o] at b<;>rw[L]
  ·exact s.dis t u c l i v K a b
  ·intro r;have:=((s.tree t c i).2.2.2 a b).1;have:=((d.tree u l v).2.2 a r).2.2.1;omega
  ·intro r;have:=((s.tree u l v).2.2.2 a r).1;have:=((d.tree t c i).2.2 a b).2.2.1;omega
  exact d.dis t u c l i v K a b
 ·intro T;exact(d.tmp T).mono I (λid c k=>⟨(d.tree id c k).1,J id c k⟩) S
 intro a b N;rw[e.heap a (je b d.size)];exact d.frame a b N
def cM.VG (a:cM U O z f j p q) (b:hn f m):cM U O z m j p q:=by have:=a.ext (rtn:=p) (fpn:=q) b (λ_ a=>a) (λ_ a=>.inl a) (new:=[]) .nil;exact this
def oZ:bm (X×aj)->aM->Prop
 |[],_=>True
 |(k,av)::r,st=>gt st.g k=av/\oZ r st
def o0:bm (X×aD)->aM->Prop
 |[],_=>True
 |(k,t)::r,st=>aq st.h k=Y t/\o0 r st
def oZ.get {b:bm (X×aj)} (c:oZ b O):∀a,gt b a=.dead\/gt b a=gt O.g a:=by
 induction b with
 |nil=>exactλa=>.inl bn
 |cons f b e=>
  obtain⟨i,h⟩:=f;intro a;rw[iV];split
  ·rename_i d;subst d;exact .inr c.1.symm
  exact e c.2 a
def o0.get (c:o0 u O):∀a b,aq u a=Y b->aq O.h a=Y b:=by
 induction u with
 |nil=>intro a b c;cases c
 |cons g u f=>
  obtain⟨j,i⟩:=g;intro a b d;rw[dg] at d;split at d
  ·rename_i e;subst e;rw[<-d];exact c.1
  exact f c.2 a b d
mutual
def aj.ids:aj->ahb
 |.dead|.val _ _|.df _=>[]
 |.ref id _|.addr id _|.view id _ _ _|.ent id _ _=>[id]
 |.app id _ _ _ c=>id::c
 |.ff a|.agg a|.eA _ a=>aj.og a
 |.hA b=>b.ids
def aj.og:bm aj->ahb
 |[]=>[]
 |a::b=>a.ids++aj.og b
end
theorem aj.z8 {l:bm aj} {i:X} (a:l[i]?=Y V) {id:X} (b:id∈V.ids):id∈aj.og l:=by
 induction l generalizing i with
 |nil=>grind
 |cons e d c=>
  grind [aj.og]
theorem cP.s2 {x:eD->X->Prop} {z:bm (X×aD)} {D:X->ag5} {y:X->ahb} (s:∀B b,e B b->x B b/\c5 f m b) (F:cP e f u p q V R) (d:∀id∈V.ids,∀w,aq u id=Y w->aq z id=Y w/\D id=p id/\y id=q id/\aS e f w.1 (p id) w.2 (q id)/\∀b∈q id,c5 f m b):cP x m z D y V R:=by
 induction F with
 |dead R=>exact .dead R
 |df R=>exact .df R
 |val T=>exact .val (T.mono s ac)
 |ref h g=>
  obtain⟨i,j,_,o,k⟩:=d _ (by simp[aj.ids]) _ h;exact .ref i (by rw[j];exact g.sm o k)
 |addr h g=>
  obtain⟨i,j,_,o,k⟩:=d _ (by simp[aj.ids]) _ h;exact .addr i (by rw[j];exact g.sm o k)
 |ma id C=>exact .ma id C
 |view h g a c E=>
  obtain⟨i,j,_,o,k⟩:=d _ (by simp[aj.ids]) _ h;exact .view i (by rw[j];exact g.sm o k) a c E
 |@app id C a4 a3 av w ap U a0 ad f2 R h N g J a H c am an O=>
  obtain⟨i,j,S,Q,A⟩:=d _ (by simp[aj.ids]) _ h;have I:∀b∈f2,c5 f m b:=λb l=>(by grind [aj.ids]);refine .app i N (by rw[j];exact g.sm Q A) J (a.mono s (λb l=>A b (H b l))) (by grind) (c.mono s I) ?_ ?_ O
  ·grind [aj.ids]
  grind [aj.ids]
 |ent h g l M K L=>
  obtain⟨i,j,S,o,k⟩:=d _ (by simp[aj.ids]) _ h;exact .ent i (by rw[j];exact g.sm o k) (by grind) (by rw[(k _ l).2];exact M) K L
 |ff t _ n=>exact .ff t (λv V R a c=>n v V R a c (λid r=>d id (aj.z8 a r)))
 |agg t _ n=>exact .agg t (λv V R a c=>n v V R a c (λid r=>d id (aj.z8 a r)))
 |eA t _ n=>exact .eA t (λv V R a c=>n v V R a c (λid r=>d id (aj.z8 a r)))
 |hA l G P _ n=>exact .hA (s _ _ l).1 (by rw[((s _ _ l).2.1 0).1];exact G) P (n λid r=>d id (by grind [aj.ids]))
def cM.yL {o:aM} (a:cM U o z f j p q) (v:oZ O.g o) (d:o0 O.h o) (w:∀c,∀id∈(gt O.g c).ids,(aq O.h id).isSome=bp):cM U O z f j p q where
 n:=a.n
 i0:=a.i0
 i1:=a.i1
 ib:=a.ib
 tree:=λid b e=>a.tree id b (d.get id b e)
 dis:=λs t b i m x=>a.dis s t b i (d.get s b m) (d.get t i x)
 tmp:=λc=>by
  rcases v.get c with l|l
  ·rw[l];exact .dead _
  have:=w c;rw[l] at this|-;refine(a.tmp c).s2 (λy k u=>⟨u,c5.refl f k⟩) (λid m b e=>?_);obtain⟨i,r⟩:=akp.1 (this id m);have:=d.get id i r;rw[e] at this;obtain rfl:=gD this;exact⟨r,bn,bn,(a.tree id b e).1,λk _=>c5.refl f k⟩
 frame:=a.frame
 evo:=a.evo
 size:=a.size
 os:=a.os
 tape:=a.tape
 output:=a.output
 pin:=a.pin
def my (a:bm (X×aj)) (b:bm (X×aD)):bA:=a.all λc=>c.2.ids.all λid=>(aq b id).isSome
theorem my.get {a:bm (X×aj)} (f:my a u=bp) (c:X):∀id∈(gt a c).ids,(aq u id).isSome=bp:=by
 intro id b;unfold gt at b;cases d:aq a c with
 |none=>grind [aj.ids]
 |some e=>
  rw[d] at b;have g:(c,e)∈a:=by
   clear f b
   induction a with
   |nil=>cases d
   |cons i j h=>
    grind [ajD,ah0,dg]
  grind [aij,my]
section
mutual
def fi (P:b0):ai->bF->Prop
 |.int f,T=>∃a,P.info? T=Y a/\a.size=1/\a.bytes<=24/\a.zero=Y (.int f 0)/\P.underlying T=Y (.int f)
 |.bool,T=>∃a,P.info? T=Y a/\a.size=1/\a.bytes<=24/\a.zero=Y (.bool bq)/\P.underlying T=Y .bool
 |.str,T=>∃a,P.info? T=Y a/\a.size=1/\a.bytes<=24/\a.zero=Y (.string ajH)/\P.underlying T=Y .string
 |.a6 _ b,T=>∃a E,P.info? T=Y a/\a.size=1/\a.bytes<=24/\a.zero=Y (.slice bo 0 0)/\P.underlying T=Y (.slice E)/\fi P b E
 |.osl b,T=>∃a E,P.info? T=Y a/\a.size=1/\a.bytes<=24/\a.zero=Y (.slice bo 0 0)/\P.underlying T=Y (.slice E)/\fi P b E
 |.ptr _ b,T=>∃a E,P.info? T=Y a/\a.size=1/\a.bytes<=24/\a.zero=Y (.pointer bo)/\P.underlying T=Y (.pointer E)/\fi P b E
 |.optr b,T=>∃a E,P.info? T=Y a/\a.size=1/\a.bytes<=24/\a.zero=Y (.pointer bo)/\P.underlying T=Y (.pointer E)/\fi P b E
 |.st b,T=>0<b.size/\∃a e d,P.info? T=Y a/\a.size=b.size/\a.bytes<=24*b.size/\a.zero=Y (.agg d)/\P.underlying T=Y (.struct e)/\iI P b e.toList 0 d.toList/\d.size=b.size
 |.mp b,T=>∃a c E,P.info? T=Y a/\a.size=1/\a.bytes<=24/\a.zero=Y (.map bo)/\P.underlying T=Y (.map c E)/\P.underlying c=Y (.int .i64)/\fi P b E
 |.fw _ b,T=>∃a c E,P.info? T=Y a/\a.size=1/\a.bytes<=24/\a.zero=Y (.map bo)/\P.underlying T=Y (.map c E)/\P.underlying c=Y (.int .i64)/\fi P b E
 |.fn _ _,T=>∃a g h i,P.info? T=Y a/\a.size=1/\a.bytes<=24/\a.zero=Y .nilFunc/\P.underlying T=Y (.func g h i)
 |_,_=>b5
def iI (P:b0):ai->bm ahC->X->ag5->Prop
 |.pr a g,c::h,e,b=>c.offset=e/\fi P a c.type/\0<a.size/\(∃d f,P.info? c.type=Y d/\d.zero=Y f/\b.take a.size=f.cells.toList)/\iI P g h (e+a.size) (b.drop a.size)
 |.nil,[],_,b=>b=[]
 |_,_,_,_=>b5
end
def o9:ai->bA
 |.st _=>bp
 |_=>bq
structure R6 (P:b0) (τ:ai) (T:bF) (i:TypeInfo):Prop where
 info:P.info? T=Y i
 size:i.size=τ.size
 bytes:i.bytes<=24*τ.size
 pos:0<τ.size
def fi.info {P:b0}:∀{τ:ai} {T:bF},fi P τ T->∃a g,R6 P τ T a/\P.underlying T=Y g/\(match g with|.struct _|.array _ _=>bp|_=>bq)=o9 τ
 |.int _,_,⟨a,b,c,d,_,e⟩=>⟨a,_,⟨b,c,d,by simp[ai.size]⟩,e,bn⟩
 |.bool,_,⟨a,b,c,d,_,e⟩=>⟨a,_,⟨b,c,d,by simp[ai.size]⟩,e,bn⟩
 |.str,_,⟨a,b,c,d,_,e⟩=>⟨a,_,⟨b,c,d,by simp[ai.size]⟩,e,bn⟩
 |.a6 _ _,_,⟨a,_,b,c,d,_,e,_⟩=>⟨a,_,⟨b,c,d,by simp[ai.size]⟩,e,bn⟩
 |.osl _,_,⟨a,_,b,c,d,_,e,_⟩=>⟨a,_,⟨b,c,d,by simp[ai.size]⟩,e,bn⟩
 |.ptr _ _,_,⟨a,_,b,c,d,_,e,_⟩=>⟨a,_,⟨b,c,d,by simp[ai.size]⟩,e,bn⟩
 |.optr _,_,⟨a,_,b,c,d,_,e,_⟩=>⟨a,_,⟨b,c,d,by simp[ai.size]⟩,e,bn⟩
 |.st i,_,⟨h,a,_,_,b,c,d,_,e,_⟩=>⟨a,_,⟨b,c,d,h⟩,e,bn⟩
 |.pr _ _,_,f=>f.elim
 |.nil,_,f=>f.elim
 |.eK,_,f=>f.elim
 |.mp _,_,⟨a,_,_,b,c,d,_,e,_⟩=>⟨a,_,⟨b,c,d,by simp[ai.size]⟩,e,bn⟩
 |.fw _ _,_,⟨a,_,_,b,c,d,_,e,_⟩=>⟨a,_,⟨b,c,d,by simp[ai.size]⟩,e,bn⟩
 |.fn _ _,_,⟨a,_,_,_,b,c,d,_,e⟩=>⟨a,_,⟨b,c,d,by simp[ai.size]⟩,e,bn⟩
theorem fi.HN {P:b0}:∀{τ:ai} {T:bF},fi P τ T->∃g,g.cells.size=τ.size/\∀d,P.info? T=Y d->d.zero=Y g
 |.int _,_,⟨d,a,_,_,b,_⟩|.bool,_,⟨d,a,_,_,b,_⟩|.str,_,⟨d,a,_,_,b,_⟩=>⟨_,bn,λf c=>by rw[a] at c;cases c;exact b⟩
 |.a6 _ _,_,⟨d,_,a,_,_,b,_⟩|.osl _,_,⟨d,_,a,_,_,b,_⟩|.ptr _ _,_,⟨d,_,a,_,_,b,_⟩|.optr _,_,⟨d,_,a,_,_,b,_⟩=>⟨_,bn,λf c=>by rw[a] at c;cases c;exact b⟩
 |.st n,_,⟨j,d,_,i,a,k,l,b,m,_,h⟩=>⟨.agg i,h,λf c=>by grind⟩
 |.pr _ _,_,e=>e.elim
 |.nil,_,e=>e.elim
 |.eK,_,e=>e.elim
 |.mp _,_,⟨d,_,_,a,_,_,b,_⟩=>⟨_,bn,λf c=>by rw[a] at c;cases c;exact b⟩
 |.fw _ _,_,⟨d,_,_,a,_,_,b,_⟩=>⟨_,bn,λf c=>by rw[a] at c;cases c;exact b⟩
 |.fn _ _,_,⟨d,_,_,_,a,_,_,b,_⟩=>⟨_,bn,λf c=>by rw[a] at c;cases c;exact b⟩
section
variable {P:b0} {τ:ai} {T:bF}
def fi.sizeOf (c:fi P τ T) (b:bD):(ah1 T).run P b=.ok τ.size b:=by obtain⟨e,d,a,_⟩:=c.info;simp[ah1,ahL,a.info,a.size]
def fi.isAgg (c:fi P τ T) (a:bD):(Go.isAgg T).run P a=.ok (o9 τ) a:=by obtain⟨g,b,f,e,d⟩:=c.info;simp only[Go.isAgg,bY,b7 e,b1];rw[<-d];cases b<;>rfl
def fi.pos (a:fi P τ T):0<τ.size:=by obtain⟨d,c,b,_⟩:=a.info;exact b.pos
def I8:∀{τ:ai} {T:bF},fi P τ T->o9 τ=bq->τ.size=1
 |.int _,_,_,_|.bool,_,_,_|.str,_,_,_|.a6 _ _,_,_,_|.osl _,_,_,_|.ptr _ _,_,_,_|.optr _,_,_,_|.mp _,_,_,_|.fw _ _,_,_,_|.fn _ _,_,_,_=>rfl
 |.st _,_,_,a=>by cases a
 |.pr _ _,_,a,_=>a.elim
 |.nil,_,a,_=>a.elim
 |.eK,_,a,_=>a.elim
def EG (a:o9 τ=bq):cW τ g=g.headD undef:=by cases τ<;>first|rfl|cases a
def EH (a:o9 τ=bp):cW τ g=.agg g.toArray:=by cases τ<;>first|rfl|cases a
theorem ow (d:fi P τ T) (c:g.length=τ.size) (e:∀a∈g,a.oneCell'=bp):(cW τ g).cells=g.toArray:=by
 cases b:o9 τ with
 |true=>rw[EH b];rfl
 |false=>
  rw[EG b];rw[I8 d b] at c;obtain⟨a,rfl⟩:=qC.1 c;have:=e a ac;cases a<;>first|rfl|grind [ahA]
theorem JB {w:bD} {b o:X} {cs:ag5} (a:fi P τ T) (e:fq w b o cs) (c:cs.length=τ.size):(loadVar T ⟨b,o,bo⟩).run P w=.ok (cW τ cs) w:=by
 simp only[loadVar,bY,a.isAgg,b1];cases g:o9 τ with
 |true=>
  simp only[cg,bY,a.sizeOf,b1];rw[<-c,run_loadCells_list w ⟨b,o,bo⟩ cs (λh d f=>by rw[ah9];exact e h d f)];simp_all [EH]
 |false=>
  rw[I8 a g] at c;obtain⟨d,rfl⟩:=qC.1 c;have:=e 0 d bn;simp_all [EG,mQ]
end
def mb:(τ:ai)->bv τ.den
 |.int _=>Y (0:Z)
 |.bool=>Y bq
 |.str=>Y ajH
 |.a6 _ _=>Y []
 |.osl _=>Y []
 |.ptr _ _=>Y bo
 |.optr _=>bo
 |.st c=>mb c
 |.pr a b=>match mb a,mb b with|some d,some e=>Y (d,e)|_,_=>bo
 |.nil=>Y ()
 |.eK=>bo
 |.mp _=>Y bo
 |.fw _ _=>Y bo
 |.fn _ _=>bo
mutual
theorem vC {P:b0}:∀{τ:ai} {T:bF} {g:τ.den},fi P τ T->mb τ=Y g->∃b l,P.info? T=Y b/\b.zero=Y l/\l=cW τ l.cells.toList/\∀(e:eD->X->Prop) (f:bD),aS e f τ l.cells.toList g []
 |.int p,_,g,⟨b,c,h,i,d,j⟩,a=>⟨b,_,c,d,bn,λe f=>by cases a;exact⟨bn,bn⟩⟩
 |.bool,_,g,⟨b,c,h,i,d,j⟩,a=>⟨b,_,c,d,bn,λe f=>by cases a;exact⟨bn,bn⟩⟩
 |.str,_,g,⟨b,c,h,i,d,j⟩,a=>⟨b,_,c,d,bn,λe f=>by cases a;exact⟨bn,bn⟩⟩
 |.a6 _ _,_,g,⟨b,_,c,h,i,d,j,_⟩,a=>⟨b,_,c,d,bn,λe f=>by cases a;exact⟨bn,bo,0,bn,bd _,λ_=>rfl,.inl bn⟩⟩
 |.osl _,_,g,⟨b,_,c,h,i,d,j,_⟩,a=>⟨b,_,c,d,bn,λe f=>by cases a;exact⟨bo,0,bn,.inl ⟨bn,bn,bn,bn⟩⟩⟩
 |.ptr _ _,_,g,⟨b,_,c,h,i,d,j,_⟩,a=>⟨b,_,c,d,bn,λe f=>by cases a;exact⟨bn,bn⟩⟩
 |.optr _,_,_,_,a=>by cases a
 |.st n,_,g,⟨_,b,o,q,c,h,i,d,j,m,_⟩,a=>⟨b,_,c,d,bn,λe f=>Ru (τ:=n) m a e f⟩
 |.pr _ _,_,_,k,_=>k.elim
 |.nil,_,_,k,_=>k.elim
 |.eK,_,_,k,_=>k.elim
 |.mp _,_,g,⟨b,_,_,c,h,i,d,j,_⟩,a=>⟨b,_,c,d,bn,λe f=>by cases a;exact⟨bn,bn⟩⟩
 |.fw _ _,_,g,⟨b,_,_,c,h,i,d,j,_⟩,a=>⟨b,_,c,d,bn,λe f=>by cases a;exact⟨bn,bn⟩⟩
 |.fn _ _,_,_,_,a=>by cases a
theorem Ru {P:b0}:∀{τ:ai} {l:bm ahC} {g:X} {f:ag5} {e:τ.den},iI P τ l g f->mb τ=Y e->∀(b:eD->X->Prop) (d:bD),aS b d τ f e []
 |.pr j k,r::x,g,f,e,a,c,b,d=>by
  obtain⟨s,m,t,⟨u,B,ax,q,w⟩,n⟩:=a;simp only[mb] at c;split at c
  ·rename_i z A o p;cases c;obtain⟨v,C,h,i,_,y⟩:=vC (τ:=j) m o;rw[ax] at h;obtain rfl:=gD h;rw[q] at i;obtain rfl:=gD i;exact⟨[],[],bn,by grind,Ru (τ:=k) n p b d⟩
  grind
 |.nil,[],_,f,e,a,c,b,d=>⟨bn,a⟩
 |.pr _ _,[],_,_,_,a,_,_,_=>a.elim
 |.nil,_::_,_,_,_,a,_,_,_=>a.elim
 |.int _,_,_,_,_,a,_,_,_=>by cases a
 |.bool,_,_,_,_,a,_,_,_=>by cases a
 |.str,_,_,_,_,a,_,_,_=>by cases a
 |.a6 _ _,_,_,_,_,a,_,_,_=>by cases a
 |.osl _,_,_,_,_,a,_,_,_=>by cases a
 |.ptr _ _,_,_,_,_,a,_,_,_=>by cases a
 |.optr _,_,_,_,_,a,_,_,_=>by cases a
 |.st _,_,_,_,_,a,_,_,_=>by cases a
 |.eK,_,_,_,_,a,_,_,_=>by cases a
 |.mp _,_,_,_,_,a,_,_,_=>by cases a
 |.fw _ _,_,_,_,_,a,_,_,_=>by cases a
 |.fn _ _,_,_,_,_,a,_,_,_=>by cases a
end
def a9:ai->ai->bA
 |.int g,.int h=>if g=h then bp else bq
 |.bool,.bool|.str,.str|.nil,.nil=>bp
 |.a6 _ a,.a6 _ b|.a6 _ a,.osl b|.osl a,.a6 _ b|.osl a,.osl b=>a9 a b
 |.ptr _ a,.ptr _ b|.ptr _ a,.optr b|.optr a,.ptr _ b|.optr a,.optr b=>a9 a b
 |.st a,.st b=>a9 a b
 |.mp a,.mp b|.mp a,.fw _ b|.fw _ a,.mp b|.fw _ a,.fw _ b=>a9 a b
 |.fn _ _,.fn _ _=>bp
 |.pr c d,.pr e f=>a9 c e&&a9 d f
 |_,_=>bq
theorem a9.size:∀{τ b:ai},a9 τ b=bp->τ.size=b.size:=by
 intro τ
 induction τ with
 |st h c=>intro b a;cases b<;>simp only[a9] at a<;>first|(simp only[ai.size];exact c a)|cases a
 |pr d e f g=>
  intro b a;cases b<;>simp only[a9] at a<;>try (cases a;done)
  simp only[cC] at a;grind [ai.size]
 |_=>intro b a;cases b<;>simp[a9] at a<;>simp[ai.size]
mutual
theorem fi.lay {P:b0}:∀{τ c:ai} {T:bF},a9 τ c=bp->fi P τ T->fi P c T
 |.int q,c,_,a,b=>by cases c<;>simp[a9] at a;grind
 |.bool,c,_,a,b=>by grind [a9]
 |.str,c,_,a,b=>by grind [a9]
 |.a6 _ k,c,_,a,b=>by obtain⟨h,E,d,i,j,e,f,g⟩:=b;cases c<;>simp only[a9] at a<;>first|exact⟨h,E,d,i,j,e,f,fi.lay a g⟩|cases a
 |.osl k,c,_,a,b=>by obtain⟨h,E,d,i,j,e,f,g⟩:=b;cases c<;>simp only[a9] at a<;>first|exact⟨h,E,d,i,j,e,f,fi.lay a g⟩|cases a
 |.ptr _ k,c,_,a,b=>by obtain⟨h,E,d,i,j,e,f,g⟩:=b;cases c<;>simp only[a9] at a<;>first|exact⟨h,E,d,i,j,e,f,fi.lay a g⟩|cases a
 |.optr k,c,_,a,b=>by obtain⟨h,E,d,i,j,e,f,g⟩:=b;cases c<;>simp only[a9] at a<;>first|exact⟨h,E,d,i,j,e,f,fi.lay a g⟩|cases a
 |.st k,c,_,a,b=>by
  obtain⟨p,h,n,o,d,i,j,e,f,g,l⟩:=b;cases c<;>simp only[a9] at a<;>try (cases a;done)
  have:=a9.size a;exact⟨aa,h,n,o,d,aa,aa,e,f,iI.lay a g,aa⟩
 |.pr _ _,_,_,_,b=>b.elim
 |.nil,_,_,_,b=>b.elim
 |.eK,_,_,_,b=>b.elim
 |.mp k,c,_,a,b=>by obtain⟨h,m,E,d,i,j,e,f,g,l⟩:=b;cases c<;>simp only[a9] at a<;>first|exact⟨h,m,E,d,i,j,e,f,g,fi.lay a l⟩|cases a
 |.fw _ k,c,_,a,b=>by obtain⟨h,m,E,d,i,j,e,f,g,l⟩:=b;cases c<;>simp only[a9] at a<;>first|exact⟨h,m,E,d,i,j,e,f,g,fi.lay a l⟩|cases a
 |.fn _ _,c,_,a,b=>by cases c<;>simp only[a9] at a<;>first|exact b|cases a
theorem iI.lay {P:b0}:∀{τ c:ai} {f:bm ahC} {d:X} {e:ag5},a9 τ c=bp->iI P τ f d e->iI P c f d e
 |.pr k l,c,m::o,d,e,b,a=>by
  obtain⟨g,h,n,i,j⟩:=a;cases c<;>simp only[a9] at b<;>try (cases b;done)
  simp only[cC] at b;have:=a9.size b.1;exact⟨g,fi.lay b.1 h,aa,by rw[<-this];exact i,by rw[<-this];exact iI.lay b.2 j⟩
 |.nil,c,[],_,_,b,a=>by grind [a9]
 |.pr _ _,_,[],_,_,_,a=>a.elim
 |.nil,_,_::_,_,_,_,a=>a.elim
 |.int _,_,_,_,_,_,a=>by cases a
 |.bool,_,_,_,_,_,a=>by cases a
 |.str,_,_,_,_,_,a=>by cases a
 |.a6 _ _,_,_,_,_,_,a=>by cases a
 |.osl _,_,_,_,_,_,a=>by cases a
 |.ptr _ _,_,_,_,_,_,a=>by cases a
 |.optr _,_,_,_,_,_,a=>by cases a
 |.st _,_,_,_,_,_,a=>by cases a
 |.eK,_,_,_,_,_,a=>by cases a
 |.mp _,_,_,_,_,_,a=>by cases a
end
structure tQ where
 b:X
 T:bF
 k:cx
 xs:ahc
def KF (P:b0) (a:tQ):Prop:=∃b,P.underlying a.T=Y (.array a.xs.length b)/\fi P (.int a.k) b
def Kp (P:b0) (T:bF):Prop:=P.stoodInHeld T=bq/\P.eqGuardType P.depth T=bq/\∃a,P.underlying T=Y (.struct a)/\(a.toList.all λb=>b.name !="_")=bp
structure fy where
 P:b0
 tt:bm (bF×ai)
 ok:∀T τ,aq tt T=Y τ->fi P τ T
 mix:P.follows .mixedOrders=bp
 glob:bm tQ:=[]
 gok:∀g∈glob,KF P g:=by intro g h;cases h
 eqs:ag4:=[]
 eqok:∀T∈eqs,Kp P T:=by intro T h;cases h
end
section
def hD:X:=4294967296
def al {b:Type} (c:bm b) (a:Z):bv b:=if 0<=a then c[a.toNat]? else bo
theorem MX {b:bm N} {a:Z} {c:N} (d:al b a=Y c):a=(a.toNat:Z)/\a.toNat<b.length/\b[a.toNat]?=Y c:=by grind [ahT,al]
inductive ia where
 |e4 (av:aj) (new:bm (X×aD))
 |part (α:Type) (φ:α->Prop) (f:α->aj×bm (X×aD))
 |bad
def ia.K (e:ia) (Q:aj->bm (X×aD)->Prop):Prop:=
 match e with
 |.e4 c d=>Q c d
 |.part f g b=>∃a:f,g a/\Q (b a).1 (b a).2
 |.bad=>b5
def ai.pure:ai->bA
 |.osl _|.optr _|.eK|.mp _=>bq
 |.st c=>c.pure
 |.pr a b=>a.pure&&b.pure
 |_=>bp
def fk:ai->bm aZ->bv ai
 |τ,[]=>Y τ
 |.osl c,.idx _::b=>fk c b
 |.optr c,.deref::b=>fk c b
 |.mp c,.deref::b=>fk c b
 |.st c,.unst::b=>fk c b
 |.pr a _,.fst::b=>fk a b
 |.pr _ d,.snd::b=>fk d b
 |_,_=>bo
def fG:ai->X->bv (bm aZ×ai)
 |.pr a _,0=>Y ([.fst],a)
 |.pr _ c,d+1=>match fG c d with|some b=>Y (.snd::b.1,b.2)|none=>bo
 |_,_=>bo
def fx:ai->X->X
 |.pr _ _,0=>0
 |.pr a b,c+1=>a.size+fx b c
 |_,_=>0
def q9:(e:ai)->e.den->X->bv aD
 |.pr a _,b,0=>Y ⟨a,b.1⟩
 |.pr _ c,b,d+1=>q9 c b.2 d
 |_,_,_=>bo
theorem Hx {h:b0}:∀{τ:ai} {j:bm ahC} {f:X} {g:ag5} {e:X} {s:bm aZ} {τf:ai},iI h τ j f g->fG τ e=Y (s,τf)->∃c,j[e]?=Y c/\c.offset=f+fx τ e/\fi h τf c.type
 |.pr a i,c::m,f,g,0,s,τf,d,b=>by simp only[fG,eU,im] at b;obtain⟨rfl,rfl⟩:=b;exact⟨c,bn,by rw[d.1];rfl,d.2.1⟩
 |.pr a i,c::m,f,g,e+1,s,τf,d,b=>by
  simp only[fG] at b;split at b
  ·rename_i k l;simp only[eU,im] at b;obtain⟨rfl,rfl⟩:=b;obtain⟨n,o,p,q⟩:=Hx (τ:=i) d.2.2.2.2 (s:=k.1) (τf:=k.2) l;grind [fx]
  grind
 |.pr _ _,[],_,_,_,_,_,d,_=>d.elim
 |.int _,_,_,_,_,_,_,_,b=>by cases b
 |.bool,_,_,_,_,_,_,_,b=>by cases b
 |.str,_,_,_,_,_,_,_,b=>by cases b
 |.a6 _ _,_,_,_,_,_,_,_,b=>by cases b
 |.osl _,_,_,_,_,_,_,_,b=>by cases b
 |.ptr _ _,_,_,_,_,_,_,_,b=>by cases b
 |.optr _,_,_,_,_,_,_,_,b=>by cases b
 |.st _,_,_,_,_,_,_,_,b=>by cases b
 |.nil,_,_,_,_,_,_,_,b=>by cases b
 |.eK,_,_,_,_,_,_,_,b=>by cases b
theorem HA:∀{τ:ai} {e:τ.den} {d:X} {c:aD},q9 τ e d=Y c->∃g,fG τ d=Y (g,c.1)
 |.pr a f,e,0,c,b=>by simp only[q9,eU] at b;subst b;exact⟨_,bn⟩
 |.pr a f,e,d+1,c,b=>by obtain⟨g,h⟩:=HA (τ:=f) b;grind [fG]
 |.int _,_,_,_,b=>by cases b
 |.bool,_,_,_,b=>by cases b
 |.str,_,_,_,b=>by cases b
 |.a6 _ _,_,_,_,b=>by cases b
 |.osl _,_,_,_,b=>by cases b
 |.ptr _ _,_,_,_,b=>by cases b
 |.optr _,_,_,_,b=>by cases b
 |.st _,_,_,_,b=>by cases b
 |.nil,_,_,_,b=>by cases b
 |.eK,_,_,_,b=>by cases b
theorem w8:∀{τ:ai} {c:X} {s:bm aZ} {tf:ai},fG τ c=Y (s,tf)->fx τ c+tf.size<=τ.size
 |.pr a d,0,s,tf,b=>by simp only[fG,eU,im] at b;obtain⟨_,rfl⟩:=b;simp[fx,ai.size]
 |.pr a d,c+1,s,tf,b=>by
  simp only[fG] at b;split at b
  ·rename_i e f;simp only[eU,im] at b;obtain⟨_,rfl⟩:=b;have:=w8 (τ:=d) (s:=e.1) (tf:=e.2) f;grind [fx,ai.size]
  grind
 |.int _,_,_,_,b=>by cases b
 |.bool,_,_,_,b=>by cases b
 |.str,_,_,_,b=>by cases b
 |.a6 _ _,_,_,_,b=>by cases b
 |.osl _,_,_,_,b=>by cases b
 |.ptr _ _,_,_,_,b=>by cases b
 |.optr _,_,_,_,b=>by cases b
 |.st _,_,_,_,b=>by cases b
 |.nil,_,_,_,b=>by cases b
 |.eK,_,_,_,b=>by cases b
theorem Hz {i:eD->X->Prop} {w:bD}:∀{τ:ai} {f:τ.den} {e:X} {c:aD} {d:ag5},aS i w τ d f []->q9 τ f e=Y c->aS i w c.1 ((d.drop (fx τ e)).take c.1.size) c.2 []/\fx τ e+c.1.size<=τ.size
 |.pr a j,f,0,c,d,h,b=>by simp only[q9,eU] at b;subst b;obtain⟨g,f2,m,l,k⟩:=h;obtain⟨rfl,rfl⟩:g=[]/\f2=[]:=(by simp_all);grind [fx,ai.size]
 |.pr a j,f,e+1,c,d,h,b=>by obtain⟨g,f2,m,l,k⟩:=h;obtain⟨rfl,rfl⟩:g=[]/\f2=[]:=(by simp_all);obtain⟨n,o⟩:=Hz (τ:=j) k b;grind [ai1,fx,ai.size]
 |.int _,_,_,_,_,_,b=>by cases b
 |.bool,_,_,_,_,_,b=>by cases b
 |.str,_,_,_,_,_,b=>by cases b
 |.a6 _ _,_,_,_,_,_,b=>by cases b
 |.osl _,_,_,_,_,_,b=>by cases b
 |.ptr _ _,_,_,_,_,_,b=>by cases b
 |.optr _,_,_,_,_,_,b=>by cases b
 |.st _,_,_,_,_,_,b=>by cases b
 |.nil,_,_,_,_,_,b=>by cases b
 |.eK,_,_,_,_,_,b=>by cases b
theorem aX.gz {w:bD} {a b:Loc}:aX w d a g [] r b y↔d=r/\a=b/\g=y:=by cases d<;>exact ajE
theorem aX.append {w:bD}:∀{p c:bm aZ} {τ u v:ai} {n q r:Loc} {m k l:ag5},aX w τ n m p u q k->aX w u q k c v r l->aX w τ n m (p++c) v r l
 |[],c,τ,_,_,_,_,_,_,_,_,a,b=>by grind [aX.gz]
 |s::p,c,τ,_,_,_,_,_,_,_,_,a,b=>by
  cases τ<;>cases s<;>simp only[aX] at a
  case osl.idx t i=>
   obtain⟨d,o,z,x,e,f,g,h,j,y⟩:=a;exact⟨d,o,z,x,e,f,g,h,j,y.append b⟩
  case optr.deref t=>
   obtain⟨d,o,e,f,g,h,j⟩:=a;exact⟨d,o,e,f,g,h,j.append b⟩
  case st.unst t=>exact aX.append (p:=p) (τ:=t) a b
  case pr.fst t1 t2=>exact aX.append (p:=p) (τ:=t1) a b
  case pr.snd t1 t2=>exact aX.append (p:=p) (τ:=t2) a b
theorem aX.here {w:bD} {a:Loc}:aX w d a g [] d a g:=by cases d<;>exact⟨bn,bn,bn⟩
def aX.ty {w:bD}:∀{p:bm aZ} {τ c:ai} {m n:Loc} {e f:ag5},aX w τ m e p c n f->fk τ p=Y c
 |[],τ,_,_,_,_,_,a=>by obtain⟨rfl,_⟩:=aX.gz.1 a;cases τ<;>rfl
 |s::p,τ,_,_,_,_,_,a=>by
  cases τ<;>cases s<;>simp only[aX] at a
  case osl.idx t i=>obtain⟨d,o,r,q,g,h,j,k,b,l⟩:=a;exact l.ty
  case optr.deref t=>obtain⟨d,o,g,h,j,k,b⟩:=a;exact b.ty
  case st.unst t=>exact aX.ty (p:=p) (τ:=t) a
  case pr.fst t1 t2=>exact aX.ty (p:=p) (τ:=t1) a
  case pr.snd t1 t2=>exact aX.ty (p:=p) (τ:=t2) a
theorem aX.at {w:bD}:∀{q:bm aZ} {τ r:ai} {g p:Loc} {e h:ag5},aX w τ g e q r p h->e.length=τ.size->(∀b o,g=Y (b,o)->fq w b o e)->h.length=r.size/\∀b o,p=Y (b,o)->fq w b o h
 |[],τ,_,_,_,_,_,c,n,f=>by grind [aX.gz]
 |s::q,τ,_,g,_,e,_,c,n,f=>by
  cases τ<;>cases s<;>simp only[aX] at c
  case osl.idx t i=>
   obtain⟨b,o,A,z,u,v,k,l,m,x⟩:=c;exact x.at l (λj y d=>by grind)
  case optr.deref t=>
   obtain⟨b,o,u,v,k,l,m⟩:=c;exact m.at k (λj y d=>by grind)
  case st.unst t=>exact aX.at (τ:=t) c n f
  case pr.fst a b=>
   exact aX.at (τ:=a) c (by grind [ai.size]) (λb o d=>(f b o d).take)
  case pr.snd a b=>
   refine aX.at (τ:=b) c (by grind [ai.size]) (λj o d=>?_);cases g with
   |none=>grind
   |some B=>
    simp only[jo,eU,im] at d;obtain⟨rfl,rfl⟩:=d;exact(f _ _ rfl).drop
theorem aX.uI {w:bD}:∀{τ:ai} {e:X} {s:bm aZ} {τf:ai} {l:Loc} {cs:ag5},fG τ e=Y (s,τf)->aX w τ l cs s τf (l.map λc=>(c.1,c.2+fx τ e)) ((cs.drop (fx τ e)).take τf.size)
 |.pr a f,0,s,τf,l,cs,d=>by simp only[fG,eU,im] at d;obtain⟨rfl,rfl⟩:=d;simp_all [lj,aX,fx]
 |.pr a f,e+1,s,τf,l,cs,d=>by
  simp only[fG] at d;split at d
  ·rename_i c g;simp only[eU,im] at d;obtain⟨rfl,rfl⟩:=d;have:=aX.uI (w:=w) (τ:=f) (s:=c.1) (τf:=c.2) (l:=l.map λc=>(c.1,c.2+a.size)) (cs:=cs.drop a.size) g;simp only[aX,fx];rw[qv] at this;cases l with
   |none=>grind
   |some h=>grind
  grind
 |.int _,_,_,_,_,_,b=>by cases b
 |.bool,_,_,_,_,_,b=>by cases b
 |.str,_,_,_,_,_,b=>by cases b
 |.a6 _ _,_,_,_,_,_,b=>by cases b
 |.osl _,_,_,_,_,_,b=>by cases b
 |.ptr _ _,_,_,_,_,_,b=>by cases b
 |.optr _,_,_,_,_,_,b=>by cases b
 |.st _,_,_,_,_,_,b=>by cases b
 |.nil,_,_,_,_,_,b=>by cases b
 |.eK,_,_,_,_,_,b=>by cases b
theorem eN.uniq:∀{p:bm aZ} {τ:ai} {e:τ.den} {c:ai} {f g:c.den},eN τ e p c f->eN τ e p c g->f=g
 |[],τ,_,_,_,_,a,b=>by grind [eN.gz]
 |s::p,τ,_,_,_,_,a,b=>by
  cases τ<;>cases s<;>simp only[eN] at a b
  case osl.idx=>
   obtain⟨i,h,a⟩:=a;obtain⟨j,d,b⟩:=b;rw[h] at d;obtain rfl:=gD d;exact a.uniq b
  case optr.deref=>exact eN.uniq (p:=p) a b
  case st.unst=>exact eN.uniq (p:=p) a b
  case pr.fst=>exact eN.uniq (p:=p) a b
  case pr.snd=>exact eN.uniq (p:=p) a b
def Yields (E:fy) (C:eZ) (st:aM) (a:Act) (w:bD) (I:X->Prop) (rt:X->ag5) (fp:X->ahb) (o:bQ) (Q:aj->bm (X×aD)->Prop):Prop:=
 ∃j d e i g f c,(bL a.eval o).run E.P w=.ok (.value j) d/\hn w d/\(∀b,I b->e b)/\(∀b,e b->I b\/(w.heap.size<=b/\b<d.heap.size))/\vU C st w d e c i g/\cP (bf e C.B) d (c++st.h) (fh c i rt) (fh c g fp) f j/\Q f c
section
variable {E:fy} {C:eZ} {st:aM} {a:Act} {w:bD} {I:X->Prop} {rt:X->ag5} {fp:X->ahb} {o:bQ} {Q:aj->bm (X×aD)->Prop}
def Yields.pure {v:Value} (d:(bL a.eval o).run E.P w=.ok (.value v) w) (e:cP (bf I C.B) w st.h rt fp V v) (c:Q V []):Yields E C st a w I rt fp o Q:=
 ⟨v,w,I,rt,fp,V,[],d,.refl w,λ_ b=>b,λ_ b=>.inl b,.nil,e,c⟩
def Yields.wp (t:cM C st a.tmps w I rt fp) (k:Yields E C st a w I rt fp o Q) {next:Act->bD->Prop} {j:b4->Act->bD->Prop} {f:X} (u:o.dst=Y f) (v:C.ok f) (x:∀b c e d,Q b c->e.defers=a.defers->gN C ⟨(f,b)::st.g,c++st.h⟩ e.tmps d->next e d):o.wp E.P a w next j:=by
 obtain⟨y,d,i,A,z,b,c,l,m,n,p,q,r,s⟩:=k;unfold ahp;rw[l];show next (a.put o.dst y) d
 rw[u];exact x b c _ _ s bn ⟨i,_,_,(t.ext m n p q).put v r⟩
def lW (h:BinOp) (a:cx) (d:Z) (g:cx) (b:Z):ia:=
 let c (i:Prop) (f:Z):ia:=if a=g then .part Z (λc=>i/\f=c) (λc=>(.val (.int a) c,[])) else .bad
 let e (f:bA):ia:=if a=g then .e4 (.val .bool f) [] else .bad
 match h with
 |.add=>c True (a.wrap (d+b))
 |.sub=>c True (a.wrap (d-b))
 |.mul=>c True (a.wrap (d*b))
 |.quo=>c (b≠0) (a.wrap (d.tdiv b))
 |.rem=>c (b≠0) (d.tmod b)
 |.and=>c True (a.wrap (ch a.bits d&&&ch a.bits b).toNat)
 |.or=>c True (a.wrap (ch a.bits d|||ch a.bits b).toNat)
 |.xor=>c True (a.wrap (ch a.bits d^^^ch a.bits b).toNat)
 |.andNot=>c True (a.wrap (ch a.bits d&&&~~~ch a.bits b).toNat)
 |.shl=>.part Z (λc=>0<=b/\a.wrap (d*2^min b.toNat a.bits)=c) (λc=>(.val (.int a) c,[]))
 |.shr=>.part Z (λc=>0<=b/\d.fdiv (2^min b.toNat a.bits)=c) (λc=>(.val (.int a) c,[]))
 |.eql=>e (d==b)
 |.neq=>e (d !=b)
 |.lss=>e (br (d<b))
 |.leq=>e (br (d<=b))
 |.gtr=>e (br (d>b))
 |.geq=>e (br (d>=b))
def FX (c:BinOp) (a b:aj):ia:=
 match a,b with
 |.val (.int d) a,.val (.int e) b=>lW c d a e b
 |.val .bool a,.val .bool b=>match c with
  |.eql=>.e4 (.val .bool (a==b)) []
  |.neq=>.e4 (.val .bool (!(a==b))) []
  |_=>.bad
 |_,_=>.bad
theorem SY {e:BinOp} {d g:cx} {n f:Z} (k:o.op=.binOp e x c h T) (l:a.eval c=.int d n) (m:a.eval h=.int g f) (b:(lW e d n g f).K Q):Yields E C st a w I rt fp o Q:=by
 have j:∀w,(aia e x c h (.int d n) (.int g f)).run E.P w=.ok () w:=λw=>(by simp_all [aia]);have r:e=.shl->Yields E C st a w I rt fp o Q:=(by rintro rfl;simp only[lW] at b;obtain⟨i,⟨p,rfl⟩,b⟩:=b;exact .pure (v:=.int d _) (by simp[bL,k,l,m,j,ahq,Op.shift,(aa:¬f<0)]) (.int d _) b);have s:e=.shr->Yields E C st a w I rt fp o Q:=(by rintro rfl;simp only[lW] at b;obtain⟨i,⟨p,rfl⟩,b⟩:=b;exact .pure (v:=.int d _) (by simp[bL,k,l,m,j,ahq,Op.shift,(aa:¬f<0)]) (.int d _) b);by_cases q:d=g
 case neg=>
  cases e<;>simp only[lW,q,if_false] at b
  case shl=>grind
  case shr=>grind
  all_goals exact b.elim
 subst q;cases e<;>simp only[lW,cg] at b
 case shl=>grind
 case shr=>grind
 case quo|rem=>
  obtain⟨i,⟨p,rfl⟩,b⟩:=b;exact .pure (v:=.int d _) (by simp_all [bL,ahq,Op.intDiv]) (.int d _) b
 case add|sub|mul=>
  obtain⟨i,⟨_,rfl⟩,b⟩:=b;exact .pure (v:=.int d _) (by simp_all [bL,ahq,Op.intArith]) (.int d _) b
 case and|or|xor|andNot=>
  obtain⟨i,⟨_,rfl⟩,b⟩:=b;exact .pure (v:=.int d _) (by simp_all [bY,bL,ahq,Op.intBits]) (.int d _) b
 all_goals exact .pure (v:=.bool _) (by simp[bL,k,l,m,j,ahq,Op.intCmp]) (.bool _) b
def run_equalIn_bool {a:b0} (w:bD) (d:X) (b c:bA) (e:a.underlying x=Y .bool):(aik (d+1) x (.bool b) (.bool c)).run a w=.ok (b==c) w:=by simp[aik,b7 e]
theorem run_eql_bool {a:b0} (w:bD) (b c:bA) (d:a.underlying x=Y .bool):(ahq .eql x (.bool b) (.bool c)).run a w=.ok (.bool (b==c)) w:=by simp_all [run_equalIn_bool,ai2,ai3,ahq]
theorem run_neq_bool {a:b0} (w:bD) (b c:bA) (d:a.underlying x=Y .bool):(ahq .neq x (.bool b) (.bool c)).run a w=.ok (.bool (!(b==c))) w:=by simp_all [run_equalIn_bool,ai2,ai3,ahq]
theorem Lk (s:cM C st a.tmps w I rt fp) {m:BinOp} (z:o.op=.binOp m x c h T) (y:∀i j:bA,(m=.eql\/m=.neq)->(aU st.g c=.val .bool i/\aU st.g h=.val .bool j)->E.P.underlying x=Y .bool) (d:(FX m (aU st.g c) (aU st.g h)).K Q):Yields E C st a w I rt fp o Q:=by
 have e:=s.aU c;have f:=s.aU h;unfold FX at d;split at d
 ·rename_i G J H L n p;rw[n] at e;rw[p] at f;obtain⟨b,l⟩:∃b,b=a.eval c:=⟨_,bn⟩;obtain⟨A,k⟩:∃b,b=a.eval h:=⟨_,bn⟩;rw[<-l] at e;rw[<-k] at f;cases e with|val q=>cases f with|val r=>
  obtain⟨_,rfl⟩:=q;obtain⟨_,rfl⟩:=r;exact SY z l.symm k.symm d
 ·rename_i i j n p;have k:=y i j;have u:aU st.g c=.val .bool i/\aU st.g h=.val .bool j:=⟨n,p⟩;rw[n] at e;rw[p] at f;obtain⟨b,l⟩:∃b,b=a.eval c:=⟨_,bn⟩;obtain⟨A,t⟩:∃b,b=a.eval h:=⟨_,bn⟩;rw[<-l] at e;rw[<-t] at f;cases e with|val q=>cases f with|val r=>
  obtain⟨_,rfl⟩:=q;obtain⟨_,rfl⟩:=r;have F:a.eval c=.bool i:=l.symm;have D:a.eval h=.bool j:=t.symm;have B:∀w,(aia m x c h (.bool i) (.bool j)).run E.P w=.ok () w:=λw=>(by simp_all [aia]);split at d
  ·have:=k (.inl bn) u;exact .pure (v:=.bool _) (by simp_all [bY,b1,run_eql_bool,bL]) (.bool _) d
  ·have:=k (.inr bn) u;exact .pure (v:=.bool _) (by simp_all [bY,b1,run_neq_bool,bL]) (.bool _) d
  exact d.elim
 exact d.elim
end
end
section
section
variable {E:fy} {C:eZ} {st:aM} {a:Act} {w:bD} {I:X->Prop} {rt:X->ag5} {fp:X->ahb} {o:bQ} {Q:aj->bm (X×aD)->Prop}
theorem cM.notM (c:cM C st z w I rt fp) {id:X} (e:aq st.h id=Y P):∀a∈fp id,∀b,¬bf I C.B b a:=λa d b f=>by have:=(c.tree id P e).2.2 a d;grind [m0]
theorem cM.kY (e:cM C st z w I rt fp) {id:X} (f:aq st.h id=Y P) {p:bm aZ} {τ:ai} {i:τ.den} (l:eN P.1 P.2 p τ i) {c:Loc} (m:aX w P.1 bo (rt id) p d c g):∃_e:d=τ,∃a,aS (bf I C.B) w τ g i a/\pE w c g τ.size/\∀j∈a,j∈fp id:=by obtain⟨o,n,_⟩:=e.tree id P f;obtain⟨u,q,a,v,k,r,s,t,_⟩:=Dy p (loc:=bo) o (λ_ _ b=>by cases b) n (λ_ _ b=>by cases b) (e.notM f) l;obtain⟨rfl,rfl,rfl⟩:=m.lu k;grind
def cM.P5 (e:cM C st z w I rt fp) {id:X} (i:aq st.h id=Y P) {b:Loc} (f:aX w P.1 bo (rt id) n d b g):g.length=d.size/\∀a o,b=Y (a,o)->fq w a o g:=f.at (e.tree id P i).1.len (λ_ _ c=>by cases c)
theorem pd {u:eD->X->Prop}:∀{p:bm aZ} {τ:ai} {E:Loc} {j:ag5} {m:τ.den} {g:ahb} {c:ai} {F:Loc} {n:ag5},aS u w τ j m g->aX w τ E j p (.optr c) F n->∃d o e,n=[.pointer (Y ⟨d,o,bo⟩)]/\e.length=c.size/\fq w d o e
 |[],τ,_,_,_,_,_,_,_,a,b=>by obtain⟨rfl,rfl,rfl⟩:=aX.gz.1 b;obtain⟨d,o,g,e,q,_,t,h,_⟩:=a;grind
 |s::p,τ,_,j,m,g,_,_,_,a,b=>by
  cases τ<;>cases s<;>simp only[aX] at b
  case osl.idx c i=>
   obtain⟨d,o,N,J,e,rfl,r,t,h,l⟩:=b;obtain⟨I,K,f,a⟩:=a;simp only[hP,ahm,b8] at f;obtain⟨rfl,rfl,rfl⟩:=f;rcases a with⟨k,_⟩|⟨v,G,B,k,_,ax,O,P,H⟩
   ·cases k
   cases k;obtain⟨z,L,x,y⟩:=H i m[i] (B[i]'(by omega)) ac ac
   obtain rfl:=h.eq x aa;exact pd (p:=p) y l
  case optr.deref c=>
   obtain⟨d,o,e,rfl,t,h,l⟩:=b;obtain⟨v,G,g,z,f,_,M,C,_,D⟩:=a;simp only[hP,aii,eU,ahB,b8] at f;obtain⟨rfl,rfl⟩:=f;obtain rfl:=h.eq C aa;exact pd (p:=p) D l
  case st.unst c=>exact pd (p:=p) (τ:=c) a b
  case pr.fst t1 t2=>obtain⟨A,f2,_,q,_⟩:=a;exact pd (p:=p) (τ:=t1) q b
  case pr.snd t1 t2=>obtain⟨A,f2,_,_,r⟩:=a;exact pd (p:=p) (τ:=t2) r b
def gY (tt:bm (bF×ai)) (a:bF):bv ai:=match aq tt a with|some (.a6 _ b)=>Y b|_=>bo
def lz (tt:bm (bF×ai)) (a:bF):bv ai:=match aq tt a with|some (.st b)=>Y b|_=>bo
theorem gY.ok {a:bF} {e:ai} (c:gY E.tt a=Y e):∃d b,E.P.info? a=Y d/\E.P.underlying a=Y (.slice b)/\fi E.P e b:=by
 unfold gY at c;split at c
 ·rename_i j k f;cases c;obtain⟨d,b,g,_,_,_,h,i⟩:=E.ok a _ f;grind
 grind
theorem lz.ok {a:bF} {d:ai} (c:lz E.tt a=Y d):∃b e,E.P.underlying a=Y (.struct b)/\iI E.P d b.toList 0 e:=by
 unfold lz at c;split at c
 ·rename_i k f;cases c;obtain⟨_,j,b,e,g,_,_,_,h,i,_⟩:=E.ok a _ f;grind
 grind
def uS (tt:bm (bF×ai)) (e:bm (X×aD)) (g:bF) (b:aj):ia:=
 match gY tt g with
 |none=>.bad
 |some _=>match b with
  |.val (.a6 _ _) a=>.e4 (.val (.int .i64) (a.length:Z)) []
  |.df (.slice bo 0 0)=>.e4 (.val (.int .i64) (0:Z)) []
  |.ref id d=>match aq e id with
   |some ⟨c,b⟩=>match fk c d with
    |some (.osl f)=>.part (bm f.den) (λa=>eN c b d (.osl f) a) (λa=>(.val (.int .i64) (a.length:Z),[]))
    |_=>.bad
   |none=>.bad
  |.view _ _ i h=>.e4 (.val (.int .i64) ((h-i:X):Z)) []
  |.app id d c j _=>match aq e id with
   |some ⟨k,b⟩=>.part (bm c.den) (λa=>eN k b d (.osl c) a) (λa=>(.val (.int .i64) ((a.length+j.length:X):Z),[]))
   |none=>.bad
  |_=>.bad
def xk (f:gY E.tt x=Y d) (g:o.op=.call {callee:=.builtin .len,args:=#[c],argTypes:=#[x]}) (h:a.eval c=.slice s b i):(bL a.eval o).run E.P w=.ok (.value (.int .i64 b)) w:=by obtain⟨k,j,_,e,_⟩:=gY.ok f;simp[bL,g,ahU,invoke,aib,h,akq,b7 e,goInt]
theorem WE (s:cM C st a.tmps w I rt fp) (j:o.op=.call {callee:=.builtin .len,args:=#[c],argTypes:=#[x]}) (b:(uS E.tt st.h x (aU st.g c)).K Q):Yields E C st a w I rt fp o Q:=by
 have d:=s.aU c;unfold uS at b;split at b
 ·exact b.elim
 rename_i T i;generalize f:a.eval c=U at d;split at b
 ·rename_i R D u e;rw[e] at d;cases d with|val B=>
  obtain⟨_,p,q,rfl,_⟩:=B;exact .pure (xk i j f) (.int _ _) b
 ·rename_i e;rw[e] at d;cases d;exact .pure (xk i j f) (.int _ _) b
 ·rename_i id t e;rw[e] at d;split at b
  ·rename_i G F l;split at b
   ·rename_i D O;obtain⟨u,m,b⟩:=b;cases d with|ref k n=>
    rw[l] at k;cases k;obtain⟨rfl,H,A,_⟩:=s.kY l m n;obtain⟨p,q,rfl,_⟩:=A;exact .pure (xk i j f) (.int _ _) b
   exact b.elim
  exact b.elim
 ·rename_i id t P M e;rw[e] at d;cases d with
  |ma=>exact .pure (xk i j f) (.int _ _) b
  |view k n=>exact .pure (xk i j f) (.int _ _) b
 ·rename_i id t G V S e;rw[e] at d;split at b
  ·rename_i ad F l;obtain⟨u,m,b⟩:=b;cases d with|app k N n y J L v=>
   rw[l] at k;cases k;obtain⟨p,q,r,_⟩:=v;simp only[hP,b8] at r;have z:=eN.uniq m y;subst z;rw[r] at f;have:=xk (w:=w) i j f;rw[ku] at this;exact .pure this (.int _ _) b
  exact b.elim
 exact b.elim
def aX.Nd {j:Loc} {o a c:X} (e:i<a) (f:g.length=d.size) (h:fq w b (o+i*d.size) g):aX w (.osl d) j [.slice (Y ⟨b,o,bo⟩) a c] [.idx i] d (Y (b,o+i*d.size)) g:=⟨b,o,a,c,g,bn,e,f,h,aX.here⟩
def aX.G5 {e:Loc} {o:X} (a:g.length=d.size) (c:fq w b o g):aX w (.optr d) e [.pointer (Y ⟨b,o,bo⟩)] [.deref] d (Y (b,o)) g:=⟨b,o,g,bn,a,c,aX.here⟩
def uP (
 tt:bm (bF×ai)) (i:bm (X×aD)) (k:bF) (e d:aj):ia:=
 match gY tt k with
 |none=>.bad
 |some g=>match d with
  |.val (.int _) d=>match e with
   |.val (.a6 m b) n=>bif a9 g b then .part b.den (λh=>al n d=Y h) (λh=>(.val (.ptr m b) (Y h),[])) else .bad
   |.ref id c=>match aq i id with
    |some ⟨f,e⟩=>match fk f c with
     |some (.osl b)=>bif a9 g b then .part (bm b.den×X) (λa=>eN f e c (.osl b) a.1/\d=(a.2:Z)/\a.2<a.1.length) (λa=>(.addr id (c++[.idx a.2]),[])) else .bad
     |_=>.bad
    |none=>.bad
   |.view id c j l=>match aq i id with
    |some ⟨f,e⟩=>match fk f c with
     |some (.osl b)=>bif a9 g b then .part (bm b.den×X) (λa=>eN f e c (.osl b) a.1/\d=(a.2:Z)/\a.2<l-j) (λa=>(.addr id (c++[.idx (j+a.2)]),[])) else .bad
     |_=>.bad
    |none=>.bad
   |_=>.bad
  |_=>.bad
def HQ (l:gY E.tt x=Y r) (n:a9 r d=bp) (p:o.op=.indexAddr x h c) {e f g:X} (s:a.eval h=.slice (Y ⟨e,f,bo⟩) i g) (m:a.eval c=.int v b) (u:b<i):(bL a.eval o).run E.P w=.ok (.value (.pointer (Y ⟨e,f+b*d.size,bo⟩))) w:=by obtain⟨y,t,_,j,k⟩:=gY.ok l;have q:=(k.lay n).sizeOf w;have:(0:Z)<=(b:Z)/\(b:Z)<(i:Z):=⟨aa,aa⟩;simp[bL,p,s,m,Instr.indexAt,ail,b7 j,this,q,ah9];omega
theorem VV (B:cM C st a.tmps w I rt fp) {z:bM} (M:o.op=.indexAddr T z c) (b:(uP E.tt st.h T (aU st.g z) (aU st.g c)).K Q):Yields E C st a w I rt fp o Q:=by
 have k:=B.aU z;have L:=B.aU c;unfold uP at b;split at b
 ·exact b.elim
 rename_i U J;generalize N:a.eval z=d7 at k;generalize O:a.eval c=d8 at L;split at b
 case h_2=>exact b.elim
 rename_i ap P bs;rw[bs] at L;cases L with|val S=>
 obtain⟨_,rfl⟩:=S;split at b
 ·rename_i c2 f y q;cases d:a9 U f with
  |false=>rw[d] at b;exact b.elim
  |true=>
   rw[d] at b;obtain⟨V,c1,b⟩:=b;rw[q] at k;cases k with|val S=>
   obtain⟨_,ad,am,rfl,ax,av,R⟩:=S;obtain⟨ao,a4,bl⟩:=MX c1;rcases R with rfl|⟨A,u,rfl,ce,v⟩
   ·grind
   obtain⟨F,n,p,D⟩:=v _ _ bl;have cv:a.eval c=.int ap (P.toNat:X):=(by rw[O];show ahr ap P=_;grind);exact .pure (HQ J d M N cv a4) (.val (τ:=.ptr c2 f) (x:=Y V) (cs:=[.pointer (Y ⟨A,u+P.toNat*f.size,bo⟩)]) ⟨bn,A,_,F,bn,ce,n,p,D⟩) b
 ·rename_i id dl q;split at b
  case h_2=>exact b.elim
  rename_i a0 V j;split at b
  case h_2=>exact b.elim
  rename_i f co;cases d:a9 U f with
  |false=>rw[d] at b;exact b.elim
  |true=>
   rw[d] at b;obtain⟨⟨y,e⟩,⟨r,rfl,l⟩,b⟩:=b;simp only at r l b;rw[q] at k;cases k with|ref t s=>
   rw[j] at t;cases t;obtain⟨rfl,bx,i,_⟩:=B.kY j r s;obtain⟨ad,am,rfl,i⟩:=i;rcases i with⟨_,rfl,_⟩|⟨A,u,G,rfl,_,ax,av,R,v⟩
   ·grind
   obtain⟨F,n,p,D⟩:=v e y[e] (G[e]'(by omega)) ac ac
   exact .pure (HQ J d M N O l) (.addr j (s.append (aX.Nd l n p))) b
 ·rename_i id dl m d1 q;split at b
  case h_2=>exact b.elim
  rename_i a0 V j;split at b
  case h_2=>exact b.elim
  rename_i f co;cases d:a9 U f with
  |false=>rw[d] at b;exact b.elim
  |true=>
   rw[d] at b;obtain⟨⟨y,e⟩,⟨r,rfl,l⟩,b⟩:=b;simp only at r l b;rw[q] at k;cases k with|ma=>omega|view t s d2 d3 d4=>
   rename_i A u d5 am;rw[j] at t;cases t;obtain⟨a3,bx,i,_⟩:=B.kY j r s;cases a3;obtain⟨ad,d0,an,i⟩:=i;simp only[hP,ahm,b8] at an;obtain⟨rfl,rfl,rfl⟩:=an;rcases i with⟨H,_⟩|⟨ds,d6,G,H,_,ax,av,R,v⟩
   ·cases H
   cases H;have ci:m+e<y.length:=aa;obtain⟨F,n,p,D⟩:=v (m+e) y[m+e] (G[m+e]'(by omega)) ac ac
   have:=HQ (w:=w) J d M N O l;rw[aw aa,show u+m*f.size+e*f.size=u+(m+e)*f.size by grind] at this;exact .pure this (.addr j (s.append (aX.Nd ci n p))) b
 exact b.elim
def aS.pure {h:eD->X->Prop} {w:bD}:∀{τ:ai} {i:ag5} {e:τ.den} {g:ahb},τ.pure=bp->aS h w τ i e g->g=[]
 |.int _,_,_,_,_,b=>b.1
 |.bool,_,_,_,_,b=>b.1
 |.str,_,_,_,_,b=>b.1
 |.a6 _ _,_,_,_,_,b=>b.1
 |.ptr _ _,_,_,_,_,b=>b.1
 |.nil,_,_,_,_,b=>b.1
 |.st k,_,_,_,c,b=>aS.pure (τ:=k) c b
 |.pr a f,_,_,_,c,b=>by simp only[ai.pure,cC] at c;obtain⟨n,f2,rfl,j,d⟩:=b;rw[aS.pure (τ:=a) c.1 j,aS.pure (τ:=f) c.2 d];rfl
 |.osl _,_,_,_,c,_=>by cases c
 |.optr _,_,_,_,c,_=>by cases c
 |.fw _ _,_,e,_,_,b=>by
  cases e with
  |none=>exact b.1
  |some o=>obtain⟨f,m,l,_,d,_⟩:=b;exact d
 |.fn _ _,_,_,_,_,b=>b.1
 |.eK,_,_,_,c,_=>by cases c
def vd (d:ai) (e:d.den) (id:X) (c:bm aZ) (a:ai):ia:=
 bif a.pure then .part a.den (λb=>eN d e c a b) (λb=>(.val a b,[])) else .e4 (.ref id c) []
def oE:ai->bA
 |.st _|.pr _ _|.nil|.eK=>bq
 |_=>bp
def o6:ai->bA
 |.nil=>bp
 |.pr a b=>oE a&&o6 b
 |_=>bq
def zM:(d:ai)->d.den->bm aj
 |.pr a c,b=>.val a b.1::zM c b.2
 |_,_=>[]
def o6.one {τ:ai} (a:oE τ=bp):τ.size=1/\∀cs,cW τ cs=cs.headD undef:=by cases τ<;>first|(cases a;done)|exact⟨bn,λ_=>rfl⟩
def MN {g:eD->X->Prop} {w:bD} {h:bm (X×aD)} {rt:X->ag5} {fp:X->ahb}:∀{t:ai} {c:ag5} {e:t.den},o6 t=bp->aS g w t c e []->(zM t e).length=c.length/\∀(b:X) (a:aj) (f:Value),(zM t e)[b]?=Y a->c[b]?=Y f->cP g w h rt fp a f
 |.nil,c,e,_,j=>by obtain rfl:=j.2;exact⟨bn,λb a f d _=>by cases d⟩
 |.pr a o,c,e,i,j=>by
  simp only[o6,cC] at i;obtain⟨v,f2,r,d,k⟩:=j;obtain⟨rfl,rfl⟩:=akr.1 r.symm;obtain⟨ao,q⟩:=o6.one i.1;have m:=d.len;rw[ao] at d k m;cases c with
  |nil=>cases m
  |cons f c=>
   obtain⟨ax,s⟩:=MN (t:=o) i.2 k;refine⟨b3 (· +1) ax,λb p u l n=>?_⟩;cases b with
   |zero=>
    cases l;cases n;have:=cP.val (M:=g) (w:=w) (h:=h) (rt:=rt) (fp:=fp) d;rw[q] at this;exact this
   |succ b=>exact s b p u l n
def u7:(t:ai)->t.den->aj
 |.fn b t,a=>bif o6 t then .eA b (zM t a) else .val (.fn b t) a
 |t,a=>.val t a
def aaA {w:bD} {rt:X->ag5} {fp:X->ahb} {b:d.den} (j:aS e w d g b []):cP e w u rt fp (u7 d b) (cW d g):=by
 cases d<;>first|exact .val j|skip
 rename_i c d;cases i:o6 d with
 |false=>
  have:u7 (.fn c d) b=.val (.fn c d) b:=(by simp only[u7,i,bO]);rw[this];exact .val j
 |true=>
  have:u7 (.fn c d) b=.eA c (zM d b):=(by simp only[u7,i,bG]);rw[this];obtain⟨_,o,rfl,f⟩:=j;obtain⟨ax,m⟩:=MN (h:=u) (rt:=rt) (fp:=fp) i f;exact .eA (by simpa using ax) (λl a n k f=>m l a n k (by simpa using f))
def uT (tt:bm (bF×ai)) (f:bm (X×aD)) (g:bF) (c:aj):ia:=
 match aq tt g with
 |none=>.bad
 |some e=>match c with
  |.val (.ptr _ a) (Y i)=>bif a9 e a then .e4 (u7 a i) [] else .bad
  |.hA h=>bif oE e then .e4 h [] else .bad
  |.addr id b=>match aq f id with
   |some ⟨d,c⟩=>match fk d b with
    |some a=>bif a9 e a then vd d c id b a else .bad
    |none=>.bad
   |none=>.bad
  |.ref id b=>match aq f id with
   |some ⟨d,c⟩=>match fk d b with
    |some (.optr a)=>bif a9 e a then vd d c id (b++[.deref]) a else .bad
    |_=>.bad
   |none=>.bad
  |_=>.bad
theorem Ig (e:aq E.tt x=Y r) (j:a9 r d=bp) (k:o.op=.load x c) (l:a.eval c=.pointer (Y ⟨b,i,bo⟩)) (f:fq w b i g) (h:g.length=d.size):(bL a.eval o).run E.P w=.ok (.value (cW d g)) w:=by have:=JB ((E.ok x r e).lay j) f h;simp_all [bL,alA,aiE]
theorem Jq (l:cM C st a.tmps w I rt fp) {id:X} {k:r.den} (j:aq st.h id=Y ⟨r,k⟩) {p:Loc} (e:aX w r bo (rt id) n d p g) (f:(bL a.eval o).run E.P w=.ok (.value (cW d g)) w) (b:(vd r k id n d).K Q):Yields E C st a w I rt fp o Q:=by
 unfold vd at b;cases c:d.pure with
 |true=>
  rw[c] at b;obtain⟨s,m,b⟩:=b;obtain⟨_,q,i,_⟩:=l.kY j m e;have:=i.pure c;subst this;exact .pure f (.val i) b
 |false=>
  rw[c] at b;exact .pure f (.ref j e) b
theorem WL (p:cM C st a.tmps w I rt fp) (z:o.op=.load x c) (d:(uT E.tt st.h x (aU st.g c)).K Q):Yields E C st a w I rt fp o Q:=by
 have f:=p.aU c;unfold uT at d;split at d
 ·exact d.elim
 rename_i n r;generalize A:a.eval c=u at f;split at d
 ·rename_i a0 m G i;cases e:a9 n m with
  |false=>rw[e] at d;exact d.elim
  |true=>
   rw[e] at d;rw[i] at f;cases f with|val U=>
   obtain⟨_,q,O,H,rfl,ax,F,S,T⟩:=U;exact .pure (Ig r e z A S F) (aaA T) d
 ·rename_i am i;cases s:oE n with
  |false=>rw[s] at d;exact d.elim
  |true=>
   rw[s] at d;rw[i] at f;cases f with|hA ap L an M=>
   obtain⟨ao,J⟩:=o6.one s;rename_i u q;have:=JB (E.ok x n r) (cs:=[u]) (w:=w) (b:=q) (o:=0) (λD a3 B=>by
    cases D with
    |zero=>cases B;exact L
    |succ D=>cases B) (by rw[ao];rfl)
   have N:(bL a.eval o).run E.P w=.ok (.value u) w:=(by rw[J] at this;simp_all [bL,alA,aiE]);exact .pure N M d
 ·rename_i id R i;split at d
  case h_2=>exact d.elim
  rename_i V G k;split at d
  case h_2=>exact d.elim
  rename_i m t;cases e:a9 n m with
  |false=>rw[e] at d;exact d.elim
  |true=>
   rw[e] at d;rw[i] at f;cases f with|addr l j=>
   rw[k] at l;cases l;have:=j.ty;rw[t] at this;cases this;obtain⟨ax,F⟩:=p.P5 k j;grind [Jq,Ig]
 ·rename_i id R i;split at d
  case h_2=>exact d.elim
  rename_i V G k;split at d
  case h_2=>exact d.elim
  rename_i m t;cases e:a9 n m with
  |false=>rw[e] at d;exact d.elim
  |true=>
   rw[e] at d;rw[i] at f;cases f with|ref l j=>
   rename_i a4 av ad;rw[k] at l;cases l;have:=j.ty;rw[t] at this;cases this;obtain⟨q,O,H,rfl,v,y⟩:=pd (p.tree id _ k).1 j;exact Jq p k (j.append (aX.G5 v y)) (Ig r e z A y v) d
 exact d.elim
def uJ (tt:bm (bF×ai)) (g:bm (X×aD)) (h:bF) (k:aj) (c:X):ia:=
 match lz tt h with
 |none=>.bad
 |some e=>match k with
  |.val (.ptr i (.st a)) (Y l)=>bif a9 e a then match q9 a l c with
   |some ⟨j,m⟩=>.e4 (.val (.ptr i j) (Y m)) []
   |none=>.bad
   else .bad
  |.ref id b=>match aq g id with
   |some ⟨f,_⟩=>match fk f b with
    |some (.optr (.st a))=>bif a9 e a then match fG a c with
     |some (d,_)=>.e4 (.addr id (b++(.deref::.unst::d))) []
     |none=>.bad
     else .bad
    |_=>.bad
   |none=>.bad
  |.addr id b=>match aq g id with
   |some ⟨f,_⟩=>match fk f b with
    |some (.st a)=>bif a9 e a then match fG a c with
     |some (d,_)=>.e4 (.addr id (b++(.unst::d))) []
     |none=>.bad
     else .bad
    |_=>.bad
   |none=>.bad
  |_=>.bad
theorem Hw {g:ai} (m:lz E.tt x=Y g) (q:a9 g d=bp) (u:fG d b=Y (n,r)) (s:o.op=.fieldAddr x c b) {f:X} (v:a.eval c=.pointer (Y ⟨i,f,bo⟩)):(bL a.eval o).run E.P w=.ok (.value (.pointer (Y ⟨i,f+fx d b,bo⟩))) w:=by obtain⟨j,A,k,l⟩:=lz.ok m;obtain⟨h,z,t,e⟩:=Hx (iI.lay q l) u;have y:r.size≠0:=(by have:=e.pos;omega);have p:j[b]?=Y h:=(by grind);simp[bL,s,v,Instr.fieldAt,b7 k,p,aiE,fieldPlace,e.sizeOf,y,ah9,t]
theorem Va (G:cM C st a.tmps w I rt fp) (y:o.op=.fieldAddr T c b) (d:(uJ E.tt st.h T (aU st.g c) b).K Q):Yields E C st a w I rt fp o Q:=by
 have m:=G.aU c;unfold uJ at d;split at d
 ·exact d.elim
 rename_i D v;generalize A:a.eval c=a0 at m;split at d
 ·rename_i U e M r;cases i:a9 D e with
  |false=>rw[i] at d;exact d.elim
  |true=>
   rw[i] at d;simp only[bG] at d;split at d
   case h_2=>exact d.elim
   rename_i n ap H;rw[r] at m;cases m with|val am=>
   obtain⟨_,f,j,u,rfl,ax,av,ad,J⟩:=am;obtain⟨t,k⟩:=HA H;obtain⟨L,an⟩:=Hz (τ:=e) J H;have R:=J.len;simp only[ai.size] at R L an;exact .pure (Hw v i k y A) (.val (τ:=.ptr U n) (x:=Y ap) (cs:=[.pointer (Y ⟨f,j+fx e b,bo⟩)]) ⟨bn,f,_,_,bn,ax,by grind,ad.drop.take,L⟩) d
 ·rename_i id V r;split at d
  case h_2=>exact d.elim
  rename_i N M q;split at d
  case h_2=>exact d.elim
  rename_i e z;cases i:a9 D e with
  |false=>rw[i] at d;exact d.elim
  |true=>
   rw[i] at d;simp only[bG] at d;split at d
   case h_2=>exact d.elim
   rename_i t n k;rw[r] at m;cases m with|ref s p=>
   rw[q] at s;cases s;have:=p.ty;rw[z] at this;cases this;obtain⟨f,j,u,rfl,O,P⟩:=pd (G.tree id _ q).1 p;rename_i S;have B:aX w (.optr (.st e)) S [.pointer (Y ⟨f,j,bo⟩)] (.deref::.unst::t) n (Y (f,j+fx e b)) ((u.drop (fx e b)).take n.size):=⟨f,j,u,bn,O,P,aX.uI (l:=Y (f,j)) k⟩;exact .pure (Hw v i k y A) (.addr q (p.append B)) d
 ·rename_i id V r;split at d
  case h_2=>exact d.elim
  rename_i N M q;split at d
  case h_2=>exact d.elim
  rename_i e z;cases i:a9 D e with
  |false=>rw[i] at d;exact d.elim
  |true=>
   rw[i] at d;simp only[bG] at d;split at d
   case h_2=>exact d.elim
   rename_i t n k;rw[r] at m;cases m with|addr s p=>
   rw[q] at s;cases s;have:=p.ty;rw[z] at this;cases this;rename_i f j F;have B:aX w (.st e) (Y (f,j)) F (.unst::t) n (Y (f,j+fx e b)) ((F.drop (fx e b)).take n.size):=aX.uI (l:=Y (f,j)) k;exact .pure (Hw v i k y A) (.addr q (p.append B)) d
 exact d.elim
def w7 (
 tt:bm (bF×ai)) (i:bm (X×aD)) (h:bF) (c:aj) (d:X):ia:=
 match lz tt h with
 |none=>.bad
 |some f=>match c with
  |.val (.st a) k=>bif a9 f a then match q9 a k d with
   |some ⟨b,l⟩=>.e4 (.val b l) []
   |none=>.bad
   else .bad
  |.ref id e=>match aq i id with
   |some ⟨g,c⟩=>match fk g e with
    |some (.st a)=>bif a9 f a then match fG a d with
     |some (j,b)=>vd g c id (e++(.unst::j)) b
     |none=>.bad
     else .bad
    |_=>.bad
   |none=>.bad
  |_=>.bad
theorem MM {j:ai} (q:lz E.tt x=Y j) (t:a9 j d=bp) (v:fG d b=Y (n,r)) (u:o.op=.field x c b) (y:a.eval c=cW (.st d) g) (B:fx d b+r.size<=g.length):(bL a.eval o).run E.P w=.ok (.value (cW r ((g.drop (fx d b)).take r.size))) w:=by
 obtain⟨k,G,m,p⟩:=lz.ok q;obtain⟨f,C,i,e⟩:=Hx (iI.lay t p) v;have F:=e.pos;have s:k[b]?=Y f:=(by grind);simp only[mS] at i;have z:a.eval c=.agg g.toArray:=y;have A:(part f.type g.toArray f.offset).run E.P w=.ok (cW r ((g.drop (fx d b)).take r.size)) w:=by
  simp only[part,bY,e.isAgg,b1,i];cases h:o9 r with
  |true=>
   rw[EH h];simp only[cg,bY,e.sizeOf,b1,cy];grind
  |false=>
   have l:=I8 e h;rw[EG h,l];have D:fx d b<g.length:=aa;have:(g.drop (fx d b)).take 1=[g[fx d b]]:=(by grind [ai4]);simp_all
 simp[bL,u,z,Instr.field,b7 m,s,asAgg,A]
theorem Vc (m:cM C st a.tmps w I rt fp) (u:o.op=.field x c b) (d:(w7 E.tt st.h x (aU st.g c) b).K Q):Yields E C st a w I rt fp o Q:=by
 have j:=m.aU c;unfold w7 at d;split at d
 ·exact d.elim
 rename_i D s;generalize y:a.eval c=P at j;split at d
 ·rename_i f J l;cases e:a9 D f with
  |false=>rw[e] at d;exact d.elim
  |true=>
   rw[e] at d;simp only[bG] at d;split at d
   case h_2=>exact d.elim
   rename_i q R t;rw[l] at j;cases j with|val A=>
   obtain⟨B,i⟩:=HA t;obtain⟨H,O⟩:=Hz (τ:=f) A t;have G:=A.len;simp only[ai.size] at G;exact .pure (MM s e i u y aa) (.val H) d
 ·rename_i id M l;split at d
  case h_2=>exact d.elim
  rename_i L J p;split at d
  case h_2=>exact d.elim
  rename_i f F;cases e:a9 D f with
  |false=>rw[e] at d;exact d.elim
  |true=>
   rw[e] at d;simp only[bG] at d;split at d
   case h_2=>exact d.elim
   rename_i B q i;rw[l] at j;cases j with|ref v n=>
   rename_i S z r;rw[p] at v;cases v;have:=n.ty;rw[F] at this;cases this;obtain⟨ax,N⟩:=m.P5 p n;have k:aX w (.st f) z r (.unst::B) q (z.map λk=>(k.1,k.2+fx f b)) ((r.drop (fx f b)).take q.size):=aX.uI i;exact Jq m p (n.append k) (MM s e i u y (by rw[ax];exact w8 i)) d
 exact d.elim
def u3 (f:bm (X×aD)) (b:aj):ia:=
 match b with
 |.val (.ptr h d) b=>.part d.den (λc=>b=Y c) (λc=>(.val (.ptr h d) (Y c),[]))
 |.ref id a=>match aq f id with
  |some ⟨i,_⟩=>match fk i a with
   |some (.optr _)=>.e4 (.ref id a) []
   |_=>.bad
  |none=>.bad
 |.addr id a=>.e4 (.addr id a) []
 |.eA e g=>.e4 (.eA e g) []
 |_=>.bad
theorem Xy (p:cM C st a.tmps w I rt fp) (M:o.op=.nilCheck c) (b:(u3 st.h (aU st.g c)).K Q):Yields E C st a w I rt fp o Q:=by
 have d:=p.aU c;unfold u3 at b;generalize N:a.eval c=F at d;split at b
 ·rename_i u l m e;obtain⟨m,rfl,b⟩:=b;rw[e] at d;cases d with|val D=>
  obtain⟨_,f,k,n,rfl,ax,z,A,B⟩:=D;exact .pure (v:=.pointer (Y ⟨f,k,bo⟩)) (by simp_all [bL,cW]) (.val (τ:=.ptr u l) (x:=Y m) (cs:=[.pointer (Y ⟨f,k,bo⟩)]) ⟨bn,f,k,n,bn,ax,z,A,B⟩) b
 ·rename_i id y e;split at b
  case h_2=>exact b.elim
  rename_i G m j;split at b
  case h_2=>exact b.elim
  rename_i l t;rw[e] at d;cases d with|ref q i=>
  rw[j] at q;cases q;have:=i.ty;rw[t] at this;cases this;obtain⟨f,k,n,rfl,H,J⟩:=pd (p.tree id _ j).1 i;exact .pure (v:=.pointer (Y ⟨f,k,bo⟩)) (by simp_all [bL,cW]) (.ref (τ':=.optr l) j i) b
 ·rename_i id y e;rw[e] at d;cases d with|addr j i=>
  exact .pure (by simp_all [bL]) (.addr j i) b
 ·rename_i L O e;rw[e] at d;cases d with|eA s r=>
  exact .pure (by simp_all [bL]) (.eA s r) b
 exact b.elim
def sf (d:bv aj) (b a:X):Prop:=
 match d with
 |none=>a=b
 |some (.val (.int _) c)=>c=(a:Z)
 |some _=>b5
def vp (tt:bm (bF×ai)) (k:bm (X×aD)) (j:bF) (d:aj) (g f:bv aj):ia:=
 match gY tt j with
 |none=>.bad
 |some h=>match d with
  |.val (.a6 l b) e=>bif a9 h b then
   .part ep (λa=>sf g 0 a.1/\sf f e.length a.2/\a.1<=a.2/\a.2<=e.length) (λa=>(.val (.a6 l b) ((e.take a.2).drop a.1),[])) else .bad
  |.ref id c=>match aq k id with
   |some ⟨i,d⟩=>match fk i c with
    |some (.osl b)=>bif a9 h b then
     .part (bm b.den×X×X) (λa=>eN i d c (.osl b) a.1/\sf g 0 a.2.1/\sf f a.1.length a.2.2/\a.2.1<=a.2.2/\a.2.2<=a.1.length) (λa=>(.view id c a.2.1 a.2.2,[])) else .bad
    |_=>.bad
   |none=>.bad
  |_=>.bad
def F2 (a:Act) (e:ag2) (c b:X):Prop:=
 match e with
 |none=>b=c
 |some f=>∃d,a.eval f=.int d b
theorem JI (p:gY E.tt x=Y r) (t:a9 r d=bp) {j f:ag2} (u:o.op=.slice x c j f bo) {g e:X} (y:a.eval c=.slice s g e) (k:F2 a j 0 i) (h:F2 a f g b) (D:i<=b) (F:b<=e):(bL a.eval o).run E.P w=.ok (.value (.slice (if e=i then s else s.map (·.add (i*d.size))) (b-i) (e-i))) w:=by
 obtain⟨H,B,_,m,n⟩:=gY.ok p;have v:=(n.lay t).sizeOf w;have ao:(0:Z)<=(b:Z)/\(b:Z)<=(e:Z):=⟨aa,aa⟩;have C:(0:Z)<=(i:Z)/\(i:Z)<=(b:Z):=⟨aa,aa⟩;have l:(ai5 bp g e (j.map a.eval) (f.map a.eval) bo).run E.P w=.ok (i,b,e) w:=by
  cases j with
  |none=>
   obtain rfl:i=0:=k;cases f with
   |none=>obtain rfl:b=g:=h;simp[ai5]
   |some A=>obtain⟨z,q⟩:=h;simp_all [ai5,aks,ail]
  |some J=>
   obtain⟨I,G⟩:=k;cases f with
   |none=>obtain rfl:b=g:=h;simp_all [ai5,aks,ail]
   |some A=>
    obtain⟨z,q⟩:=h;simp_all [ai5,aks,ail]
 simp[bL,u,y,Instr.sliceAt,Instr.slice,b7 m,l,v]
theorem wo (h:cM C st a.tmps w I rt fp) {d:ag2} (c:sf (d.map (aU st.g)) b i):F2 a d b i:=by
 cases d with
 |none=>exact c
 |some f=>
  have:=h.aU f;simp only[jo,sf] at c;split at c
  ·grind
  ·rename_i k m e;simp only[eU] at e;rw[e] at this;subst c;generalize j:a.eval f=n at this;cases this with|val l=>obtain⟨_,rfl⟩:=l;exact⟨k,j⟩
  grind
theorem acF (e:cM C st a.tmps w I rt fp) {L y:ag2} (z:o.op=.slice T c L y bo) (b:(vp E.tt st.h T (aU st.g c) (L.map (aU st.g)) (y.map (aU st.g))).K Q):Yields E C st a w I rt fp o Q:=by
 have r:=e.aU c;unfold vp at b;split at b
 ·exact b.elim
 rename_i O v;generalize D:a.eval c=co at r;split at b
 ·rename_i ad i F u;cases f:a9 O i with
  |false=>rw[f] at b;exact b.elim
  |true=>
   rw[f] at b;obtain⟨⟨d,m⟩,⟨j,k,l,s⟩,b⟩:=b;simp only at j k l s b;rw[u] at r;cases r with|val ap=>
   obtain⟨_,P,q,rfl,ax,M,N⟩:=ap;have t:=JI (w:=w) v f z D (wo e j) (wo e k) l aa;have V:((F.take m).drop d).length=m-d:=(by grind);refine .pure t (.val (τ:=.a6 ad i) (x:=(F.take m).drop d) (cs:=[_]) ⟨bn,_,q-d,by rw[V],aa,?_,?_⟩) b
   ·intro bl;by_cases bs:q=d
    ·omega
    simp_all
   by_cases bx:m=d
   ·grind
   right;rcases N with rfl|⟨p,n,rfl,R,an⟩
   ·grind
   refine⟨p,n+d*i.size,by rw[aw aa];simp[ah9],R,λci av y=>?_⟩;grind
 ·rename_i id am u;split at b
  case h_2=>exact b.elim
  rename_i a0 av B;split at b
  case h_2=>exact b.elim
  rename_i i ce;cases f:a9 O i with
  |false=>rw[f] at b;exact b.elim
  |true=>
   rw[f] at b;obtain⟨⟨F,d,m⟩,⟨G,j,k,l,s⟩,b⟩:=b;simp only at G j k l s b;rw[u] at r;cases r with|ref J H=>
   rw[B] at J;cases J;obtain⟨rfl,a3,A,_⟩:=e.kY B G H;obtain⟨P,q,rfl,A⟩:=A;rcases A with⟨rfl,rfl,rfl,_⟩|⟨p,n,a4,rfl,_,ax,M,N,an⟩
   ·have S:m=0:=(by grind);subst S;have U:d=0:=aa;subst U;exact .pure (JI (w:=w) v f z D (wo e j) (wo e k) (bd _) (bd _)) (.ma id am) b
   have t:=JI (w:=w) v f z D (wo e j) (wo e k) l aa;have:(if q=d then Y (⟨p,n,bo⟩:Addr) else(Y (⟨p,n,bo⟩:Addr)).map (·.add (d*i.size)))=Y ⟨p,if q=d then n else n+d*i.size,bo⟩:=(by grind [ah9]);rw[this] at t;exact .pure t (.view B H l s M) b
 exact b.elim
end
end
section
def iQ:(i:ai)->ag5->bv i.den
 |.int d,b=>match b with
  |[.int e n]=>if d=e then Y n else bo
  |_=>bo
 |.bool,b=>match b with
  |[.bool c]=>Y c
  |_=>bo
 |.str,b=>match b with
  |[.string s]=>Y s
  |_=>bo
 |.a6 _ _,b=>match b with
  |[.slice bo 0 0]=>Y []
  |_=>bo
 |.osl _,b=>match b with
  |[.slice bo 0 0]=>Y []
  |_=>bo
 |.ptr _ _,b=>match b with
  |[.pointer bo]=>Y bo
  |_=>bo
 |.st f,b=>iQ f b
 |.pr a c,b=>match iQ a (b.take a.size),iQ c (b.drop a.size) with
  |some g,Y h=>Y (g,h)
  |_,_=>bo
 |.nil,b=>match b with
  |[]=>Y ()
  |_=>bo
 |.optr _,_=>bo
 |.eK,_=>bo
 |.mp _,_=>bo
 |.fw _ _,_=>bo
 |.fn _ _,_=>bo
theorem pS {M:eD->X->Prop} {w:bD}:∀{τ:ai} {d:ag5} {c:τ.den},iQ τ d=Y c->aS M w τ d c []
 |.int j,d,c,b=>by
  simp only[iQ] at b;split at b
  ·split at b
   ·rename_i f;cases b;subst f;exact⟨bn,bn⟩
   grind
  grind
 |.bool,d,c,b=>by simp only[iQ] at b;split at b<;>cases b;exact⟨bn,bn⟩
 |.str,d,c,b=>by simp only[iQ] at b;split at b<;>cases b;exact⟨bn,bn⟩
 |.a6 _ _,d,c,b=>by simp only[iQ] at b;split at b<;>cases b;exact⟨bn,bo,0,bn,bd _,λ_=>rfl,.inl bn⟩
 |.osl _,d,c,b=>by simp only[iQ] at b;split at b<;>cases b;exact⟨bo,0,bn,.inl ⟨bn,bn,bn,bn⟩⟩
 |.ptr _ _,d,c,b=>by simp only[iQ] at b;split at b<;>cases b;exact⟨bn,bn⟩
 |.st i,d,c,b=>pS (τ:=i) (by grind [iQ])
 |.pr a e,d,c,b=>by
  simp only[iQ] at b;split at b
  ·rename_i c k g h;cases b;exact⟨[],[],bn,pS (τ:=a) g,pS (τ:=e) h⟩
  grind
 |.nil,d,c,b=>by simp only[iQ] at b;split at b<;>cases b;exact⟨bn,bn⟩
 |.optr _,d,c,b=>by grind [iQ]
 |.eK,d,c,b=>by grind [iQ]
 |.mp _,d,c,b=>by grind [iQ]
 |.fw _ _,d,c,b=>by grind [iQ]
 |.fn _ _,d,c,b=>by grind [iQ]
theorem MO (d:X):∀(e:ag5) (b:X) (a:ag3),let f:=(e.zipIdx b).foldl (λa (h:Value×X)=>a.setIfInBounds (d+h.2) h.1) a
 f.size=a.size/\(∀c,c<d+b\/d+b+e.length<=c->f[c]?=a[c]?)/\(d+b+e.length<=a.size->∀c g,e[c]?=Y g->f[d+b+c]?=Y g)
 |[],b,a=>⟨bn,λ_ _=>rfl,λ_ c g i=>by grind⟩
 |x::e,b,a=>by obtain⟨j,k,l⟩:=MO d e (b+1) (a.setIfInBounds (d+b) x);grind [List.zipIdx_cons]
theorem zJ (k:X->bv ep):∀(j:bm (X×Value)) (c:ag3),(∀a∈j,∃f b,k a.1=Y (f,b)/\a.2.cells.size=b/\f+b<=c.size)->(j.Pairwise λa g=>∀o b m q,k a.1=Y (o,b)->k g.1=Y (m,q)->o+b<=m\/m+q<=o)->∃g,alB k c j=Y g/\g.size=c.size/\(∀d,(∀a∈j,∀o b,k a.1=Y (o,b)->d<o\/o+b<=d)->g[d]?=c[d]?)/\(∀a∈j,∀o b,k a.1=Y (o,b)->∀d e,a.2.cells[d]?=Y e->g[o+d]?=Y e)
 |[],c,_,_=>⟨c,bn,bn,λ_ _=>rfl,λa h=>by cases h⟩
 |(i,e)::j,c,v,r=>by
  obtain⟨f,b,t,x,D⟩:=v (i,e) ac;simp only at t x;rw[mP] at r;have w:e.cells.zipIdx.foldl (λl (a:Value×X)=>l.setIfInBounds (f+a.2) a.1) c=(e.cells.toList.zipIdx 0).foldl (λl (a:Value×X)=>l.setIfInBounds (f+a.2) a.1) c:=(by rw[<-Array.foldl_toList,Array.toList_zipIdx]);obtain⟨n,f2,p⟩:=MO f e.cells.toList 0 c;rw[<-w] at n f2 p;simp only[Array.length_toList] at f2 p;generalize A:e.cells.zipIdx.foldl (λl (a:Value×X)=>l.setIfInBounds (f+a.2) a.1) c=u at n f2 p;obtain⟨g,E,y,z,aE⟩:=zJ k j u (λa h=>by
   grind) r.2
  refine⟨g,?_,by rw[y,n],λd s=>?_,λa h m q B d F C=>?_⟩
  ·grind [alB,decide]
  ·rw[z d (λa h=>s a (g6 _ h)),f2 d (by have:=s (i,e) ac f b t;omega)]
  rcases fR.1 h with rfl|h
  ·grind
  grind
section
variable {E:fy} {C:eZ} {st:aM} {a:Act} {w:bD} {I:X->Prop} {rt:X->ag5} {fp:X->ahb} {o:bQ} {Q:aj->bm (X×aD)->Prop}
theorem fq.alloc {w:bD} {c:ag3} {e:bF} {o:X} {d:ag5} (f:∀a b,d[a]?=Y b->c[o+a]?=Y b):fq (w.alloc (.cells c e)) w.heap.size o d:=λa b g=>by simp_all
theorem iJ.alloc {w:bD} {a:ag3} {c:bF} {d b:X} (e:b<=a.size):iJ (w.alloc (.cells a c)) w.heap.size d b:=λg _ f=>by grind [World.cell?_alloc_new,World.frozen?_alloc_new]
theorem Yields.new {d:X} {t:aD} {cs:ag5} {f:ahb} {cells:ag3} {T:bF} (k:aq st.h d=bo) (e:cM C st a.tmps w I rt fp) (n:(bL a.eval o).run E.P w=.ok (.value R) (w.alloc (.cells cells T))) (q:R=cW t.1 cs) (p:aS (bf I C.B) (w.alloc (.cells cells T)) t.1 cs t.2 f) (i:∀c∈f,c=w.heap.size) (l:f.Nodup) (m:Q (.ref d []) [(d,t)]):Yields E C st a w I rt fp o Q:=by
 refine⟨R,_,I,λ_=>cs,λ_=>f,.ref d [],[(d,t)],n,.alloc w _,λ_ b=>b,λ_ b=>.inl b,.one k p l (λc g=>?_),?_,m⟩
 ·rw[i c g];exact⟨bd _,ac,λb=>by have:=e.ib _ (.inl b);omega⟩
 rw[q];have j:aq ([(d,t)]++st.h) d=Y t:=(by rw[yp,dg,au bn]);refine .ref (t:=t) (τ':=t.1) (loc:=bo) j ?_;grind [aX.here,dg,fh]
def uW (tt:bm (bF×ai)) (g:bm (X×ai)) (h:bm (X×aD)) (b:X) (f:bF) (e d:aj):ia:=
 match gY tt f,aq g b,aq h b with
 |some i,Y (.osl c),bo=>match mb c,e,d with
  |some j,.val (.int _) e,.val (.int _) d=>bif a9 i c&&b2 c.size 2000 then
   .part ep (λa=>e=(a.1:Z)/\d=(a.2:Z)/\a.1<=a.2/\a.2<=hD) (λa=>(.ref b [],[(b,⟨.osl c,bJ a.1 j⟩)])) else .bad
  |_,_,_=>.bad
 |_,_,_=>.bad
theorem WY (a:ag3) (d b c:X) (e:Value) (_hz:0<a.size) (h:a[c]?=Y e) (g:b<d):(akt a (d*a.size))[b*a.size+c]?=Y e:=by have i:c<a.size:=(rN.1 h).1;have f:(b+1)*a.size<=d*a.size:=iz _ g;rw[nh,mR] at f;grind [ai6,Nat.add_mul_mod_self_right,Nat.mod_eq_of_lt,akt]
theorem W0 (p:cM C st a.tmps w I rt fp) {m:bM} (V:o.op=.makeSlice x m c) (e:(uW E.tt l st.h b x (aU st.g m) (aU st.g c)).K Q):Yields E C st a w I rt fp o Q:=by
 have r:=p.aU m;have q:=p.aU c;unfold uW at e;split at e
 case h_2=>exact e.elim
 rename_i bx v R co U;split at e
 case h_2=>exact e.elim
 rename_i ci a3 d2 a0 d1 an J H;cases j:(a9 bx v&&b2 v.size 2000) with
 |false=>rw[j] at e;exact e.elim
 |true=>
  rw[j] at e;simp only[cC] at j;obtain⟨⟨n,i⟩,⟨rfl,rfl,M,A⟩,e⟩:=e;simp only at M A e;have dl:=gV j.2;rw[J] at r;rw[H] at q;generalize am:a.eval m=d6 at r;generalize ad:a.eval c=d5 at q;cases r with|val bl=>cases q with|val bs=>
  obtain⟨_,rfl⟩:=bl;obtain⟨_,rfl⟩:=bs;obtain⟨ap,y,_,N,O⟩:=gY.ok R;have D:=O.lay j.1;obtain⟨t,k,ax,a4,d3,G⟩:=vC D an;obtain⟨d0,_,u,_⟩:=D.info;have z:=u.info;rw[ax] at z;cases z;have F:k.cells.size=v.size:=(by have:=(G (bf I C.B) w).len;omega);have S:(t.bytes:Z)*(i:Z)<=281474976710656:=(by have:t.bytes*i<=48000*hD:=oP (by have:=u.bytes;omega) A;grind [ajI,hD]);have s:=run_make (P:=E.P) w x y t k N ax a4 a3 a0 (n:Z) (i:Z) aa aa S (by grind [hD]);simp only[fA,u.size] at s;rw[<-F] at s;refine .new (d:=b) (cells:=akt k.cells (i*k.cells.size)) (T:=y) (cs:=[.slice (Y ⟨w.heap.size,0,bo⟩) n i]) (f:=[w.heap.size]) U p ?_ bn ?_ ac ac e
  ·simp[bL,V,am,ad,cW,s]
  refine⟨Y ⟨w.heap.size,0,bo⟩,i,ac,.inr ⟨w.heap.size,0,bJ n [],bn,ac,ac,by grind,iJ.alloc (by grind [size_madeCells]),λav ce L ds cv=>?_⟩⟩;have c2:av<n:=(by grind);obtain rfl:ci=ce:=(by grind);obtain rfl:[]=L:=(by grind);refine⟨k.cells.toList,aa,fq.alloc (λap d4 c1=>?_),G _ _⟩;rw[mS,<-F];grind [WY]
def wc (tt:bm (bF×ai)) (d:bm (X×ai)) (e:bm (X×aD)) (a:X) (c:bF):ia:=
 match aq tt c,aq d a,aq e a with
 |some f,Y b,bo=>match mb b with
  |some g=>bif a9 f b then .e4 (.ref a []) [(a,⟨.optr b,g⟩)] else .bad
  |none=>.bad
 |_,_,_=>.bad
theorem Yields.box {g:r.den} {cs:ag5} (p:aq st.h b=bo) (i:cM C st a.tmps w I rt fp) (_hT:fi E.P r x) (s:(bL a.eval o).run E.P w=.ok (.value (.pointer (Y ⟨w.heap.size,0,bo⟩))) (w.alloc (.cells cs.toArray x))) (u:∀k,(∀e c,bf I C.B e c->c5 w k c)->aS (bf I C.B) k r cs g []) (q:Q (.ref b []) [(b,⟨.optr r,g⟩)]):Yields E C st a w I rt fp o Q:=by have l:∀e c,bf I C.B e c->c5 w (w.alloc (.cells cs.toArray x)) c:=λe c m=>.of_heap ((hn.alloc w _).heap c (i.ib c (m0 m)));have j:=u _ l;have n:=j.len;refine .new (d:=b) (t:=⟨.optr r,g⟩) (cs:=[.pointer (Y ⟨w.heap.size,0,bo⟩)]) (f:=[w.heap.size]) p i s bn ⟨w.heap.size,0,[],cs,bn,bn,n,fq.alloc (λy z v=>by grind),iJ.alloc (by grind),j⟩ ac ac q
theorem Sy (g:cM C st a.tmps w I rt fp) (k:o.op=.alloc x) (c:(wc E.tt l st.h b x).K Q):Yields E C st a w I rt fp o Q:=by
 unfold wc at c;split at c
 case h_2=>exact c.elim
 rename_i f q i s j;split at c
 case h_2=>exact c.elim
 rename_i y m;cases d:a9 f q with
 |false=>rw[d] at c;exact c.elim
 |true=>
  rw[d] at c;have e:=(E.ok x f i).lay d;obtain⟨t,r,ax,n,u,p⟩:=vC e m;refine .box (cs:=r.cells.toList) j g e ?_ (λv _=>p _ _) c;simp[bL,k,Instr.alloc,ahu,ahL,ax,n,newVar,ahV]
def yF (tt:bm (bF×ai)) (e:bm (X×aD)) (a:X) (d:bF) (b:aj):ia:=
 match aq tt d,aq e a with
 |some f,bo=>match b with
  |.val c b=>bif a9 f c then .e4 (.ref a []) [(a,⟨.optr c,b⟩)] else .bad
  |_=>.bad
 |_,_=>.bad
theorem S9 (j:cM C st a.tmps w I rt fp) (t:o.op=.box x c) (d:(yF E.tt st.h b x (aU st.g c)).K Q):Yields E C st a w I rt fp o Q:=by
 have f:=j.aU c;unfold yF at d;split at d
 case h_2=>exact d.elim
 rename_i l r s;split at d
 case h_2=>exact d.elim
 rename_i y B p;cases e:a9 l y with
 |false=>rw[e] at d;exact d.elim
 |true=>
  rw[e] at d;rw[p] at f;generalize u:a.eval c=z at f;cases f with|val i=>
  rename_i m;have k:=(E.ok x l r).lay e;refine .box (cs:=m) s j k ?_ (λA q=>i.mono (λv n e=>⟨e,q v n e⟩) ac) d;simp[bL,t,u,ajJ,newVar,ahV,ow k i.len i.one]
def coe (a:ai) (b:aj):bv a.den:=
 match b with
 |.val d b=>if h:d=a then Y (h▸b) else bo
 |.df c=>iQ a c.cells.toList
 |_=>bo
def yJ (a:ai):bm aj->bv (bm a.den)
 |[]=>Y []
 |x::c=>match coe a x,yJ a c with
  |some d,Y b=>Y (d::b)
  |_,_=>bo
theorem Gd (h:fi E.P d x) (c:cP e w u rt fp V R) {f:d.den} (a:coe d V=Y f):aS e w d R.cells.toList f []:=by
 unfold coe at a;split at a
 ·rename_i j i;split at a
  ·rename_i g;subst g;cases a;cases c with|val b=>
   rw[ow h b.len b.one];exact b
  grind
 ·cases c;exact pS a
 grind
def vi:bm (X×bM)->X->bA
 |[],_=>bp
 |q::b,a=>bI q.1 a&&vi b (a+1)
def wq (tt:bm (bF×ai)) (g:bm (X×ai)) (i:bm (X×aD)) (h:bM->aj) (b:X) (f:bF) (d:X) (c:bm (X×bM)):ia:=
 match gY tt f,aq i b with
 |some e,bo=>
  let a:=match aq g b with|some (.osl a)=>a|_=>e
  bif a9 e a&&b2 a.size 2000&&b2 d 1000&&vi c 0&&bI c.length d then
   match yJ a (c.map λj=>h j.2) with
   |some k=>.e4 (.ref b []) [(b,⟨.osl a,k⟩)]
   |none=>.bad
  else .bad
 |_,_=>.bad
theorem LQ {d:ai}:∀{c:bm aj} {b:bm d.den},yJ d c=Y b->b.length=c.length/\∀(e:X) (f:d.den),b[e]?=Y f->∃y:aj,c[e]?=Y y/\coe d y=Y f
 |[],b,a=>by cases a;grind
 |y::c,b,a=>by
  simp only[yJ] at a;split at a
  ·rename_i l k j g;cases a;obtain⟨h,i⟩:=LQ g;grind
  grind
theorem rB:∀{e:bm (X×bM)} {d:X},vi e d=bp->∀(a:X) (b:X×bM),e[a]?=Y b->b.1=d+a
 |[],_,_,a,b,c=>by grind
 |x::e,d,c,a,b,f=>by
  simp only[vi,cC] at c;cases a with
  |zero=>simp_all
  |succ a=>have:=rB c.2 a b (by grind);omega
theorem Td (G:cM C st a.tmps w I rt fp) {j:bU (X×bM)} (d1:o.op=.buildSlice x b j) (k:(wq E.tt l st.h (aU st.g) i x b j.toList).K Q):Yields E C st a w I rt fp o Q:=by
 unfold wq at k;split at k
 case h_2=>exact k.elim
 rename_i a0 cv c1;generalize ft:(match aq l i with|some (.osl e)=>e|_=>a0)=e at k;simp only at k;cases n:(a9 a0 e&&b2 e.size 2000&&b2 b 1000&&vi j.toList 0&&bI j.toList.length b) with
 |false=>rw[n] at k;exact k.elim
 |true=>
  rw[n] at k;simp only[cC] at n;obtain⟨⟨⟨⟨a4,A⟩,D⟩,F⟩,O⟩:=n;have A:=gV A;have D:=gV D;have O:j.toList.length=b:=fu O;simp only[bG] at k;split at k
  case h_2=>exact k.elim
  rename_i r d6;obtain⟨am,M,_,ci,co⟩:=gY.ok cv;have u:=co.lay a4;obtain⟨J,ek,an,_⟩:=u.info;have fn:=u.pos;obtain⟨bl,bs⟩:=LQ d6;simp only[e8] at bl;have d5:r.length=b:=aa;have ex:b*e.size<=16777216:=(by have:b*e.size<=1000*2000:=oP D A;omega);have R:∀(c:X) (m:X×bM),j.toList[c]?=Y m->∃p:e.den,r[c]?=Y p/\aS (bf I C.B) w e (a.eval m.2).cells.toList p []:=(by intro c m v;have ds:c<r.length:=(by grind);obtain⟨f8,ao,y⟩:=bs c r[c] ac;rw[jn,v] at ao;simp only[jo,eU] at ao;subst ao;exact⟨r[c],ac,Gd u (G.aU m.2) y⟩);obtain⟨ad,c2,dl⟩:∃a3:ag3,(b*e.size=0->a3=#[])/\(b*e.size≠0->∃s,(ahu M).run E.P w=.ok s w/\a3=s.cells):=by
   by_cases q:b*e.size=0
   ·simp_all
   obtain⟨s,_,d8⟩:=fi.HN u;exact⟨s.cells,λk=>absurd k q,λ_=>⟨s,by simp[ahu,ahL,an.info,d8 J an.info],bn⟩⟩
  obtain⟨ap,av,f3,f4,aE⟩:=zJ (λJ=>Y (J*e.size,e.size)) (j.toList.map λm=>(m.1,a.eval m.2)) ((Array.range (b*e.size)).map (ad[· %ad.size]!)) (by
   intro m d3;obtain⟨f1,d2,rfl⟩:=eP.1 d3;obtain⟨c,v,rfl⟩:=ho.1 d2;have z:j.toList[c]?=Y j.toList[c]:=ac;obtain⟨p,_,H⟩:=R c _ z;have el:=rB F c _ z;have:(c+1)*e.size<=b*e.size:=iz _ aa;rw[nh,mR] at this;refine⟨_,_,bn,by have:=H.len;omega,?_⟩;grind) (by
   rw[h0];intro c L v d0 ds fT f5 f0 f6 ao y;simp only[List.getElem_map,eU,im] at ao y;simp only[e8] at v d0;have bx:=rB F c j.toList[c] ac;have f2:=rB F L j.toList[L] ac;obtain⟨rfl,rfl⟩:=ao;obtain⟨rfl,rfl⟩:=y;left;rw[bx,f2];have:(0+c+1)*e.size<=(0+L)*e.size:=iz _ aa;grind)
  have fs:ap.size=b*e.size:=(by grind);refine .new (d:=i) (t:=⟨.osl e,r⟩) (cells:=ap) (T:=M) (cs:=[.slice (Y ⟨w.heap.size,0,bo⟩) b b]) (f:=[w.heap.size]) c1 G ?_ bn ?_ ac ac k
  ·have d4:=u.sizeOf w;have fl:¬(16777216<b*e.size):=aa;have S:(ajK (λp=>(p.fst,a.eval p.snd)) j).toList=j.toList.map λm=>(m.1,a.eval m.2):=ac;simp only[bL,d1,Instr.buildSlice,bY,b7 ci,b1,d4];rw[aw aa];by_cases q:b*e.size=0
   ·rw[au q];obtain rfl:=c2 q;rw[S];simp only[bY,cy,b1,av,ahV,newObj];rfl
   rw[aw q];obtain⟨s,d7,rfl⟩:=dl q;rw[S];simp only[bY,cy,b1,d7,av,ahV,newObj];rfl
  refine⟨Y ⟨w.heap.size,0,bo⟩,b,by rw[d5],.inr ⟨w.heap.size,0,bJ b [],bn,ac,by grind,(by grind),iJ.alloc aa,λc p ce H em=>?_⟩⟩;have v:c<b:=(by grind);obtain rfl:[]=ce:=(by grind);have z:j.toList[c]?=Y (j.toList[c]'(by omega)):=by simp
  obtain⟨f7,V,U⟩:=R c _ z;rw[H] at V;obtain rfl:=gD V;refine⟨_,U.len,fq.alloc (λam d9 eq=>?_),U.mono (λfz N n=>⟨n,.of_heap ((hn.alloc w _).heap N (G.ib N (m0 n)))⟩) ac⟩;have:=aE (j.toList[c].1,a.eval j.toList[c].2) (eP.2 ⟨j.toList[c],cO _,bn⟩) _ _ rfl am d9 (by grind);grind [rB]
end
end
section
def l8 (a:bm (X×bM)) (b:X):ag2:=aq a b
def qb (
 g:bM->aj) (e:bm (X×bM)):ai->X->bv aD
 |.pr a h,d=>
  match(match l8 e d with
   |none=>match mb a with
    |some j=>Y (⟨a,j⟩:aD)
    |none=>bo
   |some c=>match g c with
    |.val f b=>bif a9 a f then Y ⟨f,b⟩ else bo
    |.df i=>match iQ a i.cells.toList with
     |some b=>Y ⟨a,b⟩
     |none=>bo
    |_=>bo),qb g e h (d+1) with
  |some c,Y b=>Y ⟨.pr c.1 b.1,(c.2,b.2)⟩
  |_,_=>bo
 |.nil,_=>Y ⟨.nil,()⟩
 |_,_=>bo
def mA:bm (X×bM)->X->bA
 |[],_=>bp
 |q::b,a=>b2 a q.1&&mA b (q.1+1)
def gL:ai->X
 |.pr _ a=>gL a+1
 |_=>0
theorem HR:∀{e:bm (X×bM)} {d:X},mA e d=bp->∀b∈e,d<=b.1
 |[],_,_,b,a=>by cases a
 |x::e,d,a,b,c=>by
  simp only[mA,cC] at a;rcases fR.1 c with rfl|c
  ·simp_all
  have:=HR a.2 b c;have:=gV a.1;omega
def HT:∀{b:bm (X×bM)} {d:X},mA b d=bp->b.Pairwise λc f=>c.1<f.1
 |[],_,_=>ajL
 |x::b,d,a=>by simp only[mA,cC] at a;exact amS (λc e=>by have:=HR a.2 c e;omega) (HT a.2)
theorem zZ {e:Type}:∀{d:bm (X×e)} {b:X} {c:e},aq d b=Y c->(b,c)∈d
 |[],_,_,a=>by cases a
 |(f,v0)::r,b,c,a=>by
  rw[dg] at a;split at a
  ·grind
  exact g6 _ (zZ a)
def If {g:Type}:∀{e:bm (X×g)} {d:X},aq e d=bo->∀c∈e,c.1≠d
 |[],_,_,c,a=>by cases a
 |(h,v0)::r,d,b,c,a=>by
  rw[dg] at b;split at b
  ·cases b
  rename_i f;rcases fR.1 a with rfl|a
  ·exact f
  exact If b c a
theorem ru {j:b0}:∀{u:ai} {l:bm ahC} {e:X} {f:ag5},iI j u l e f->∀d,d<gL u->∃h i,fG u d=Y (h,i)
 |.pr a g,k::m,e,f,c,0,_=>⟨_,_,bn⟩
 |.pr a g,k::m,e,f,c,d+1,b=>by obtain⟨h,i,n⟩:=ru (u:=g) c.2.2.2.2 d (by grind [gL]);grind [fG]
 |.pr _ _,[],_,_,c,_,_=>c.elim
 |.int _,_,_,_,_,_,b=>by grind [gL]
 |.bool,_,_,_,_,_,b=>by grind [gL]
 |.str,_,_,_,_,_,b=>by grind [gL]
 |.a6 _ _,_,_,_,_,_,b=>by grind [gL]
 |.osl _,_,_,_,_,_,b=>by grind [gL]
 |.ptr _ _,_,_,_,_,_,b=>by grind [gL]
 |.optr _,_,_,_,_,_,b=>by grind [gL]
 |.st _,_,_,_,_,_,b=>by grind [gL]
 |.nil,_,_,_,_,_,b=>by grind [gL]
 |.eK,_,_,_,_,_,b=>by grind [gL]
theorem uK:∀{u:ai} {e c:X} {s s':bm aZ} {t t':ai},fG u e=Y (s,t)->fG u c=Y (s',t')->e<c->fx u e+t.size<=fx u c
 |.pr a f,0,c+1,s,s',t,t',b,d,_=>by simp only[fG,eU,im] at b;obtain⟨_,rfl⟩:=b;simp[fx]
 |.pr a f,e+1,c+1,s,s',t,t',b,d,k=>by
  simp only[fG] at b d;cases g:fG f e with
  |none=>grind
  |some i=>
   cases h:fG f c with
   |none=>grind
   |some j=>
    rw[g] at b;rw[h] at d;simp only[eU,im] at b d;obtain⟨_,rfl⟩:=b;obtain⟨_,rfl⟩:=d;have:=uK (u:=f) (s:=i.1) (t:=i.2) (s':=j.1) (t':=j.2) g h aa;grind [fx]
 |.int _,_,_,_,_,_,_,b,_,_=>by cases b
 |.bool,_,_,_,_,_,_,b,_,_=>by cases b
 |.str,_,_,_,_,_,_,b,_,_=>by cases b
 |.a6 _ _,_,_,_,_,_,_,b,_,_=>by cases b
 |.osl _,_,_,_,_,_,_,b,_,_=>by cases b
 |.ptr _ _,_,_,_,_,_,_,b,_,_=>by cases b
 |.optr _,_,_,_,_,_,_,b,_,_=>by cases b
 |.st _,_,_,_,_,_,_,b,_,_=>by cases b
 |.nil,_,_,_,_,_,_,b,_,_=>by cases b
 |.eK,_,_,_,_,_,_,b,_,_=>by cases b
theorem Hy:∀{u:ai} {c:X} {s:bm aZ} {t:ai},fG u c=Y (s,t)->c<gL u
 |.pr a d,0,_,_,_=>by simp[gL]
 |.pr a d,c+1,s,t,b=>by
  simp only[fG] at b;split at b
  ·rename_i e f;have:=Hy (u:=d) (s:=e.1) (t:=e.2) f;grind [gL]
  grind
 |.int _,_,_,_,b=>by cases b
 |.bool,_,_,_,b=>by cases b
 |.str,_,_,_,b=>by cases b
 |.a6 _ _,_,_,_,b=>by cases b
 |.osl _,_,_,_,b=>by cases b
 |.ptr _ _,_,_,_,b=>by cases b
 |.optr _,_,_,_,b=>by cases b
 |.st _,_,_,_,b=>by cases b
 |.nil,_,_,_,b=>by cases b
 |.eK,_,_,_,b=>by cases b
theorem HS:∀{d:bm (X×bM)} {e:X} {b:X×bM},mA d e=bp->b∈d->l8 d b.1=Y b.2
 |[],_,_,_,a=>by cases a
 |x::d,e,b,a,c=>by
  simp only[mA,cC] at a;obtain⟨f,g⟩:=x;unfold l8;rw[dg];rcases fR.1 c with rfl|c
  ·rw[au bn]
  have:=HR a.2 b c;simp only at this;rw[aw aa];exact HS a.2 c
section
variable {E:fy} {C:eZ} {st:aM} {a:Act} {w:bD} {I:X->Prop} {rt:X->ag5} {fp:X->ahb} {o:bQ} {Q:aj->bm (X×aD)->Prop}
def yE (tt:bm (bF×ai)) (e:bM->aj) (d:bF) (a:bm (X×bM)):ia:=
 match lz tt d with
 |none=>.bad
 |some c=>bif mA a 0&&a.all (λf=>ca f.1 (gL c)) then match qb e a c 0 with
  |some b=>.e4 (.val (.st b.1) b.2) []
  |none=>.bad
  else .bad
theorem N9 {z:b0} {l:eD->X->Prop} {b:bm (X×aD)} {q:bM->aj} {j:bM->Value} (v:∀c,cP l w b rt fp (q c) (j c)) {parts:bm (X×bM)} {cells:ag5}:∀{u:ai} {n:X} {B:bm ahC} {off:X} {zs:ag5} {i:aD},iI z u B off zs->qb q parts u n=Y i->cells.length=off+u.size->(∀e p d,fG u e=Y (p,d)->(∀c,l8 parts (n+e)=Y c->(j c).cells.size=d.size/\(cells.drop (off+fx u e)).take d.size=(j c).cells.toList)/\(l8 parts (n+e)=bo->(cells.drop (off+fx u e)).take d.size=(zs.drop (fx u e)).take d.size))->aS l w i.1 (cells.drop off) i.2 []/\i.1.size=u.size
 |.pr a A,n,L::V,off,zs,i,r,g,E,o=>by
  simp only[qb] at g;split at g
  case h_2=>cases g
  rename_i c am h I;cases g;obtain⟨M,C,N,⟨R,an,ax,T,U⟩,D⟩:=r;have t:=o 0 _ a bn;simp only[mQ,fx,lj] at t;have O:aS l w c.1 ((cells.drop off).take a.size) c.2 []/\c.1.size=a.size:=by
   split at h
   ·grind [vC]
   rename_i k F;have f:=v k;obtain⟨S,x⟩:=t.1 k F;split at h
   ·rename_i d K m;cases s:a9 a d with
    |false=>grind
    |true=>
     rw[s] at h;cases h;rw[m] at f;rw[x];generalize H:j k=J at f;cases f with|val y=>
     rw[ow (C.lay s) y.len y.one];grind [a9.size]
   ·rename_i J m;split at h
    ·rename_i K Q;cases h;rw[m] at f;rw[x];generalize H:j k=ad at f;cases f;grind [pS]
    grind
   grind
  have P:=N9 v (parts:=parts) (cells:=cells) (u:=A) (n:=n+1) (off:=off+a.size) (zs:=zs.drop a.size) D I (by grind [ai.size]) (by
   intro e p d G;have:=o (e+1) (.snd::p) d (by simp[fG,G]);grind [ai1,fx])
  refine⟨⟨[],[],bn,?_,?_⟩,by grind [ai.size]⟩
  ·grind
  simp_all
 |.nil,n,[],off,zs,i,r,g,E,o=>by cases g;exact⟨⟨bn,by grind [List.drop_eq_nil_iff,ai.size]⟩,bn⟩
 |.pr _ _,_,[],_,_,_,b,_,_,_=>b.elim
 |.nil,_,_::_,_,_,_,b,_,_,_=>b.elim
 |.int _,_,_,_,_,_,b,_,_,_=>by cases b
 |.bool,_,_,_,_,_,b,_,_,_=>by cases b
 |.str,_,_,_,_,_,b,_,_,_=>by cases b
 |.a6 _ _,_,_,_,_,_,b,_,_,_=>by cases b
 |.osl _,_,_,_,_,_,b,_,_,_=>by cases b
 |.ptr _ _,_,_,_,_,_,b,_,_,_=>by cases b
 |.optr _,_,_,_,_,_,b,_,_,_=>by cases b
 |.st _,_,_,_,_,_,b,_,_,_=>by cases b
 |.eK,_,_,_,_,_,b,_,_,_=>by cases b
theorem Oa {z:b0} {m:eD->X->Prop} {b:bm (X×aD)} {o:bM->aj} {h:bM->Value} (p:∀c,cP m w b rt fp (o c) (h c)) {s:bm (X×bM)}:∀{u:ai} {n:X} {B:bm ahC} {r:X} {y:ag5} {x:aD},iI z u B r y->qb o s u n=Y x->∀e v g,fG u e=Y (v,g)->∀c,l8 s (n+e)=Y c->(h c).cells.size=g.size
 |.pr a A,n,N::T,r,y,x,E,k,e,v,g,d,c,q=>by
  simp only[qb] at k;split at k
  case h_2=>cases k
  rename_i V ad i I;obtain⟨O,C,P,⟨Q,am,ax,R,S⟩,D⟩:=E;cases e with
  |zero=>
   simp only[fG,eU,im] at d;obtain⟨_,rfl⟩:=d;rw[mQ] at q;rw[q] at i;have f:=p c;simp only at i;split at i
   ·rename_i g L j;cases F:a9 a g with
    |false=>grind
    |true=>
     rw[j] at f;generalize H:h c=K at f;cases f with|val l=>
     rw[ow (C.lay F) l.len l.one];have:=l.len;grind [a9.size]
   ·rename_i K j;split at i
    ·rename_i L J;rw[j] at f;generalize H:h c=U at f;cases f;have:=(pS (M:=m) (w:=w) J).len;omega
    grind
   grind
  |succ e=>
   simp only[fG] at d;split at d
   ·rename_i t G;simp only[eU,im] at d;obtain⟨_,rfl⟩:=d;exact Oa p (u:=A) (n:=n+1) D I e t.1 t.2 G c (by rwa[(aa:n+1+e=n+(e+1))])
   grind
 |.pr _ _,_,[],_,_,_,b,_,_,_,_,_,_,_=>b.elim
 |.nil,_,_,_,_,_,_,_,_,_,_,d,_,_=>by cases d
 |.int _,_,_,_,_,_,b,_,_,_,_,_,_,_=>by cases b
 |.bool,_,_,_,_,_,b,_,_,_,_,_,_,_=>by cases b
 |.str,_,_,_,_,_,b,_,_,_,_,_,_,_=>by cases b
 |.a6 _ _,_,_,_,_,_,b,_,_,_,_,_,_,_=>by cases b
 |.osl _,_,_,_,_,_,b,_,_,_,_,_,_,_=>by cases b
 |.ptr _ _,_,_,_,_,_,b,_,_,_,_,_,_,_=>by cases b
 |.optr _,_,_,_,_,_,b,_,_,_,_,_,_,_=>by cases b
 |.st _,_,_,_,_,_,b,_,_,_,_,_,_,_=>by cases b
 |.eK,_,_,_,_,_,b,_,_,_,_,_,_,_=>by cases b
theorem run_places {P:b0} (w:bD):∀(d:ai) (h:bm ahC) (c:X) (g:ag5),iI P d h c g->(h.mapM λe=>do aim (e.offset,<-ah1 e.type):Sem ahd).run P w=.ok ((bH (gL d)).map λf=>(c+fx d f,match fG d f with|some k=>k.2.size|none=>0)) w
 |.pr a i,e::l,c,g,b=>by have j:=run_places w i l (c+a.size) (g.drop a.size) b.2.2.2.2;simp only[List.mapM_cons,bY,b.2.1.sizeOf,b1,cy,j];simp only[gL,List.range_succ_eq_map,h7,oL,b.1,fx,mQ,fG];congr 2;apply ik;intro f _;simp only[Function.comp,fx,fG];grind
 |.nil,[],_,_,_=>rfl
 |.pr _ _,[],_,_,b=>b.elim
 |.nil,_::_,_,_,b=>b.elim
 |.int _,_,_,_,b=>by cases b
 |.bool,_,_,_,b=>by cases b
 |.str,_,_,_,b=>by cases b
 |.a6 _ _,_,_,_,b=>by cases b
 |.osl _,_,_,_,b=>by cases b
 |.ptr _ _,_,_,_,b=>by cases b
 |.optr _,_,_,_,b=>by cases b
 |.st _,_,_,_,b=>by cases b
 |.eK,_,_,_,b=>by cases b
theorem S6 (ap:cM C st a.tmps w I rt fp) {i:bU (X×bM)} (c1:o.op=.build x i) (e:(yE E.tt (aU st.g) x i.toList).K Q):Yields E C st a w I rt fp o Q:=by
 unfold yE at e;split at e
 ·exact e.elim
 rename_i b O;cases p:(mA i.toList 0&&i.toList.all (λc=>ca c.1 (gL b))) with
 |false=>rw[p] at e;exact e.elim
 |true=>
  rw[p] at e;simp only[cC,g0] at p;obtain⟨a3,F⟩:=p;simp only[bG] at e;split at e
  case h_2=>exact e.elim
  rename_i d6 av;obtain⟨q,r,j,a4,d9,bl,bs,m,ek⟩:∃q r j,E.P.info? x=some q/\q.size=b.size/\q.zero=some (.agg j)/\E.P.underlying x=some (.struct r)/\iI E.P b r.toList 0 j.toList/\j.size=b.size:=by
   unfold lz at O;split at O
   ·rename_i f3 ce;cases O;obtain⟨_,q,r,j,ax,fl,_,fn,fs,ft,fz⟩:=E.ok x _ ce;grind
   grind
  have S:=Oa (λd=>ap.aU d) m av;have R:=run_places (P:=E.P) w b r.toList 0 j.toList m;simp only[mS] at R S;generalize em:((bH (gL b)).map λk=>(fx b k,match fG b k with|some c=>c.2.size|none=>0))=U at R;have z:∀k M l,fG b k=Y (M,l)->k<gL b->U.toArray[k]?=Y (fx b k,l.size):=(by grind);obtain⟨L,d2,fT,d3,aE⟩:=zJ (λq=>U.toArray[q]?) (i.toList.map λc=>(c.1,a.eval c.2)) j (by
   intro c A;obtain⟨h,G,rfl⟩:=eP.1 A;have t:h.1<gL b:=gV (F h G);obtain⟨M,l,f⟩:=ru m h.1 t;refine⟨_,_,z _ _ _ f t,S _ _ _ f h.2 ?_,by simp_all [w8]⟩;grind [HS]) (by
   rw[oM];refine(HT a3).imp_of_mem ?_;intro c V A ds t d1 d4 ex f0 ao ad;have D:c.1<gL b:=gV (F c A);have a0:V.1<gL b:=gV (F V ds);obtain⟨d5,d7,s⟩:=ru m c.1 D;obtain⟨f1,f2,p⟩:=ru m V.1 a0;rw[z _ _ _ s D] at ao;rw[z _ _ _ p a0] at ad;cases ao;cases ad;exact .inl (uK s p t))
  have eq:L.toList.length=b.size:=(by grind);obtain⟨an,d8⟩:=N9 (w:=w) (λd=>ap.aU d) (parts:=i.toList) (cells:=L.toList) (u:=b) (n:=0) (off:=0) m av aa (by
   intro J M l f;have ci:J<gL b:=Hy f;simp only[mS];have el:=w8 f;refine⟨λd H=>?_,λH=>?_⟩
   ·have co:=zZ H;have T:=S J M l f d H;refine⟨T,?_⟩;apply hQ;intro B;rcases cS B l.size with y|y
    ·obtain⟨N,d0⟩:∃N,(a.eval d).cells[B]?=some N:=⟨_,AY aa⟩;have:=aE (J,a.eval d) (eP.2 ⟨(J,d),co,bn⟩) _ _ (z _ _ _ f ci) B N d0;grind
    grind
   apply hQ;intro B;rcases cS B l.size with y|y
   ·rw[tH y,tH y,pD,pD];simp only[AZ];refine d3 _ ?_;intro c A d1 d4 ao;obtain⟨h,G,rfl⟩:=eP.1 A;have cv:=If H h G;have D:h.1<gL b:=gV (F h G);obtain⟨d5,d7,s⟩:=ru m h.1 D;rw[z _ _ _ s D] at ao;cases ao;rcases Nat.lt_or_gt_of_ne cv with t|bx
    ·have:=uK s f t;omega
    have:=uK f s bx;omega
   grind)
  rw[lj] at an;refine .pure (v:=.agg L) ?_ (.val (τ:=.st d6.1) (cs:=L.toList) an) e;have dl:(ajK (λd=>(d.fst,a.eval d.snd)) i).toList=i.toList.map λc=>(c.1,a.eval c.2):=ac;have c2:(r.mapM λam=>do aim (am.offset,<-ah1 am.type):Sem (bU ep)).run E.P w=.ok U.toArray w:=(by rw[aku,Sem.run_map,R];rfl);have T:(ahu x).run E.P w=.ok (.agg j) w:=(by simp[ahu,ahL,a4,bl]);simp only[bL,c1,Instr.build,bY,T,b7 bs,b1,c2,dl,Value.cells,d2];rfl
end
end
section
def gq {α:Type}:bm (Z×α)->Z->bv α
 |[],_=>bo
 |(a,v)::r,k=>if a=k then Y v else gq r k
def kI {α:Type}:bm (Z×α)->Z->α->bm (Z×α)
 |[],k,v=>[(k,v)]
 |(a,u)::r,k,v=>if k<a then(k,v)::(a,u)::r else if k=a then(k,v)::r else(a,u)::kI r k v
def jk {α:Type} (l:bm (Z×α)) (a:Z):bm (Z×α):=l.filter λb=>br (b.1≠a)
def mD {α:Type} (b:bv (bm (Z×α)×X)) (a:Z):bv α:=b.bind λc=>gq c.1 a
def xw {α:Type} (a:bv (bm (Z×α)×X)):Z:=match a with|some b=>(b.1.length:Z)|none=>0
section
variable {α:Type}
theorem D0:∀{l:bm (Z×α)} {c:Z} {d:α},gq l c=Y d->(c,d)∈l
 |[],_,_,b=>by cases b
 |(a,u)::r,c,d,b=>by
  simp only[gq] at b;split at b
  ·grind
  exact g6 _ (D0 b)
theorem NU:∀{l:bm (Z×α)} {c:Z},gq l c=bo->∀d,(c,d)∉l
 |[],_,_,_=>by simp
 |(a,u)::r,c,b,d=>by
  simp only[gq] at b;split at b
  ·cases b
  rename_i g;intro f;rcases fR.1 f with e|e
  ·grind
  exact NU b d e
theorem QC {l:bm (Z×α)} (c:l.Pairwise (λa b=>a.1<b.1)):(l.map (·.1)).Nodup:=by grind
theorem WW {l:bm (Z×α)} (c:(l.map (·.1)).Nodup) {a:Z} {b:α}:gq l a=Y b↔(a,b)∈l:=by
 constructor
 ·exact D0
 intro d
 induction l with
 |nil=>cases d
 |cons e h g=>
  obtain⟨f,i⟩:=e;simp only[h7,jZ] at c;simp only[gq];grind
theorem NV:∀{l:bm (Z×α)} {d:Z} {e:α} {c:Z×α},c∈kI l d e->c=(d,e)\/c∈l
 |[],d,e,c,b=>by grind [kI]
 |(a,u)::r,d,e,c,b=>by
  simp only[kI] at b;split at b
  ·grind
  split at b
  ·grind
  rcases fR.1 b with b|b
  ·grind
  exact(NV b).imp id (g6 _)
theorem Il:∀{l:bm (Z×α)} {c:Z} {d:α},l.Pairwise (λa b=>a.1<b.1)->(kI l c d).Pairwise (λa b=>a.1<b.1)
 |[],c,d,_=>by simp[kI]
 |(a,u)::r,c,d,h=>by
  rw[mP] at h;simp only[kI];split
  ·grind [ai7]
  rename_i g;split
  ·grind [ai7]
  rename_i f;rw[mP];refine⟨λi e=>?_,Il h.2⟩;rcases NV e with rfl|e
  ·omega
  grind
def WU {l:bm (Z×α)} {d:Z} (c:l.Pairwise (λa b=>a.1<b.1)):(jk l d).Pairwise (λa b=>a.1<b.1):=c.filter _
theorem Ik:∀{l:bm (Z×α)} {k:Z} {v:α},l.Pairwise (λa b=>a.1<b.1)->(kI l k v).Perm ((k,v)::jk l k)
 |[],k,v,_=>by simp[kI,jk]
 |(a,u)::r,k,v,h=>by
  rw[mP] at h;simp only[kI];split
  ·rename_i d;have:jk ((a,u)::r) k=(a,u)::r:=by
    unfold jk;grind [ain]
   rw[this]
  rename_i d;split
  ·rename_i c;subst c;have:jk ((k,u)::r) k=r:=by
    unfold jk;rw[nY,aw ac,mh];grind
   rw[this]
  rename_i c;have:jk ((a,u)::r) k=(a,u)::jk r k:=(by unfold jk;grind);rw[this];exact((Ik h.2).cons _).trans (.swap _ _ _)
end
section
variable {P:b0} {w:bD} {b:X} {e2:bU cm} {c:X}
theorem nH:iX w b=Y (e2,c)↔w.heap[b]?=Y (.map e2 c):=by grind [iX]
def qk (a:w.heap[b]?=Y (.map e2 c)):(setObj b (.map o i)).run P w=.ok () {w with heap:=w.heap.setIfInBounds b (.map o i)}:=by simp[setObj,Sem.run,a]
def run_getObj_map (a:w.heap[b]?=Y (.map e2 c)):(getObj b).run P w=.ok (.map e2 c) w:=by simp[getObj,Sem.run,a]
theorem MI {j:cx} (b:Z):∀(e2:bm cm) (c:ahc) (d:X),e2.map (·.key)=c.map (ahr .i64)->b∉c->aiF (.int j) (.int .i64 b) e2 d=Y bo
 |[],_,_,_,_=>rfl
 |e::e2,[],_,a,_=>by cases a
 |e::e2,f::c,d,a,h=>by simp only[h7,hP] at a;have i:(b==f)=bq:=(by grind);simp only[aiF,a.1,akv,cg,i];exact MI b e2 c (d+1) a.2 (λg=>h (g6 _ g))
theorem MJ {kd:cx} (b:Z):∀(e2:bm cm) (d:ahc) (f:X),e2.map (·.key)=d.map (ahr .i64)->b∈d->∃c e,d[c]?=Y b/\e2[c]?=Y e/\aiF (.int kd) (.int .i64 b) e2 f=Y (Y (f+c,e.val))
 |[],[],_,_,a=>by cases a
 |[],_::_,_,a,_=>by cases a
 |e::e2,[],_,a,_=>by cases a
 |e::e2,g::d,f,a,m=>by
  simp only[h7,hP] at a;by_cases h:b=g
  ·subst h;refine⟨0,e,bn,bn,?_⟩;simp_all [cg,ahM,aiF,akv]
  have n:(b==g)=bq:=(by grind);obtain⟨c,i,j,k,l⟩:=MJ b e2 d (f+1) a.2 ((fR.1 m).resolve_left h);refine⟨c+1,i,by simpa using j,by simpa using k,?_⟩;simp only[aiF,a.1,akv,cg,n];rw[l];grind
structure hp (M:eD->X->Prop) (w:bD) (t:ai) (b:X) (l:bm (Z×t.den)) (c:X) (e2:bU cm) (L:bm (Z×X×t.den)):Prop where
 pa:kx L l c
 h:w.heap[b]?=Y (.map e2 c)
 n:e2.size=L.length
 e:∀(i:X) (q:Z×X×t.den),L[i]?=Y q->∃ds:ag5,ds.length=t.size/\e2[i]?=Y (ajC (.int .i64 q.1) (cW t ds) q.2.1)/\aS M w t ds q.2.2 []
variable {M:eD->X->Prop} {t:ai} {l:bm (Z×t.den)} {L:bm (Z×X×t.den)}
theorem hp.keys (f:hp M w t b l c e2 L):e2.toList.map (·.key)=(L.map (·.1)).map (ahr .i64):=by
 apply hQ;intro d;simp only[jn,AZ];rcases cS d L.length with a|a
 ·obtain⟨g,_,h,_⟩:=f.e d L[d] (bc a);grind
 rw[qA a,Array.getElem?_eq_none (by rw[f.n];exact a)];rfl
def kx.keys {α:Type} {L:bm (Z×X×α)} {l:bm (Z×α)} {c:X} (a:kx L l c):(L.map (·.1)).Perm (l.map (·.1)):=by have:=a.2.1.map (·.1);rwa[oL] at this
def kx.nd {α:Type} {L:bm (Z×X×α)} {l:bm (Z×α)} {c:X} (a:kx L l c):(L.map (·.1)).Nodup:=a.keys.nodup_iff.2 (QC a.1)
def kx.mem {α:Type} {L:bm (Z×X×α)} {l:bm (Z×α)} {c:X} (b:kx L l c) {a:Z×X×α} (d:a∈L):gq l a.1=Y a.2.2:=
 (WW (QC b.1)).2 (b.2.1.mem_iff.1 (eP.2 ⟨a,d,bn⟩))
theorem kx.len {α:Type} {L:bm (Z×X×α)} {l:bm (Z×α)} {c:X} (a:kx L l c):L.length=l.length:=by have:=a.2.1.length_eq;grind
theorem JA {P:b0} {w:bD} (e:P.underlying a=Y (.int v)) {b:Z} {e2:bm cm} {c:bv (X×Value)} (d:aiF (.int v) (.int .i64 b) e2 0=Y c):(ai8 a (.int .i64 b) e2).run P w=.ok c w:=by simp_all [bY,b7,b1,ai8]
def ox {P:b0} {w:bD} (c:P.underlying a=Y (.int v)) (b:bA) (e:X) (d:Z):(alC b (e+1) a (.int .i64 d)).run P w=.ok () w:=by simp[alC,bY,b7 c]
theorem hp.find (j:hp M w t b l c e2 L) (u:P.underlying a=Y (.int v)) (d:Z):(gq l d=bo/\(∀o∈L,o.1≠d)/\∀f,(ai8 a (.int .i64 d) e2.toList).run P f=.ok bo f)\/∃h m i g,gq l d=Y i/\L[h]?=Y (d,m,i)/\g.length=t.size/\e2[h]?=Y ⟨.int .i64 d,cW t g,m⟩/\aS M w t g i []/\∀f,(ai8 a (.int .i64 d) e2.toList).run P f=.ok (Y (h,cW t g)) f:=by
 by_cases k:d∈L.map (·.1)
 ·obtain⟨h,q,r,s,B⟩:=MJ (kd:=v) d e2.toList _ 0 j.keys k;rw[jn] at r;obtain⟨⟨C,m,i⟩,n,rfl⟩:=fB.1 r;obtain⟨g,x,p,y⟩:=j.e h _ n;rw[AZ,p] at s;cases s;refine .inr ⟨h,m,i,g,j.pa.mem (jd n),n,x,p,y,λf=>JA u ?_⟩;grind
 refine .inl ⟨?_,λo A q=>k (eP.2 ⟨o,A,q⟩),λf=>JA u (MI d _ _ 0 j.keys k)⟩;cases z:gq l d with
 |none=>rfl
 |some i=>exact absurd (j.pa.keys.mem_iff.2 (eP.2 ⟨_,D0 z,bn⟩)) k
def hp.empty (M:eD->X->Prop) (t:ai) (a:w.heap[b]?=Y (.map #[] 0)):hp M w t b [] 0 #[] []:=
 ⟨⟨.nil,.refl _,.nil,ac⟩,a,bn,ac⟩
def u2 {α:Type} (L:bm (Z×X×α)) (a:Z) (d:α) (c:X):bm (Z×X×α)×X:=
 if a∈L.map (·.1) then(L.map λb=>if b.1=a then(a,b.2.1,d) else b,c) else(L++[(a,c,d)],c+1)
theorem Pt {α:Type} {c:Z} {g:α}:∀{b:bm (Z×α)},(b.map (·.1)).Nodup->c∈b.map (·.1)->(b.map λd=>if d.1=c then(c,g) else d).Perm ((c,g)::jk b c)
 |[],_,e=>by cases e
 |(a,u)::b,e,j=>by
  simp only[h7,jZ] at e;simp only[h7];by_cases h:a=c
  ·subst h;rw[au bn];have i:(b.map λd=>if d.1=a then(a,g) else d)=b:=by
    conv=>rhs;rw[<-List.map_id b]
    refine ik λd k=>?_;grind
   have f:jk ((a,u)::b) a=b:=(by unfold jk;rw[nY,aw ac,mh];grind);rw[i,f]
  rw[aw h];have f:jk ((a,u)::b) c=(a,u)::jk b c:=(by simp_all [nY,au,jk]);rw[f];refine((Pt e.2 ?_).cons _).trans (.swap _ _ _);grind
theorem kx.put {α:Type} {L:bm (Z×X×α)} {l:bm (Z×α)} {c:X} (e:kx L l c) (d:Z) (g:α):kx (u2 L d g c).1 (kI l d g) (bif (gq l d).isSome then c else c+1)/\(u2 L d g c).2=(bif (gq l d).isSome then c else c+1):=by
 have i:(gq l d).isSome=br (d∈L.map (·.1)):=by
  by_cases h:d∈L.map (·.1)
  ·obtain⟨a,f,rfl⟩:=eP.1 h;rw[e.mem f,ahg h];rfl
  rw[ahN h];cases i:gq l d with
  |none=>rfl
  |some v=>exact absurd (e.keys.mem_iff.2 (eP.2 ⟨_,D0 i,bn⟩)) h
 rw[i];unfold u2;have n:((L.map λa=>(a.1,a.2.2)).filter λa=>br (a.1≠d)).Perm (jk l d):=e.2.1.filter _;by_cases h:d∈L.map (·.1)
 ·rw[au h,ahg h];refine⟨⟨Il e.1,?_,?_,?_⟩,bn⟩
  ·have ao:((L.map λa=>if a.1=d then(d,a.2.1,g) else a).map λa=>(a.1,a.2.2))=(L.map λa=>(a.1,a.2.2)).map λa=>if a.1=d then(d,g) else a:=by
    simp only[oL];refine ik λa _=>?_;grind
   show((L.map λa=>if a.1=d then(d,a.2.1,g) else a).map λa=>(a.1,a.2.2)).Perm _;rw[ao];refine(Pt ?_ ?_).trans ((n.cons _).trans (Ik e.1).symm)
   ·rw[oL];exact e.nd
   grind
  ·have ao:((L.map λa=>if a.1=d then(d,a.2.1,g) else a).map λa=>a.2.1)=L.map λa=>a.2.1:=by
    grind [ahv,List.map_map]
   show((L.map λa=>if a.1=d then(d,a.2.1,g) else a).map λa=>a.2.1).Nodup;rw[ao];exact e.2.2.1
  intro a f;obtain⟨p,o,rfl⟩:=eP.1 f;have:=e.2.2.2 p o;grind
 rw[aw h,ahN h];refine⟨⟨Il e.1,?_,?_,?_⟩,bn⟩
 ·have j:jk l d=l:=by
   unfold jk;rw[mh];intro a f;simp only[ahD];rintro rfl;exact h (e.keys.mem_iff.2 (eP.2 ⟨a,f,bn⟩))
  have:=Ik (k:=d) (v:=g) e.1;rw[j] at this;refine List.Perm.trans ?_ this.symm;show((L++[(d,c,g)]).map λa=>(a.1,a.2.2)).Perm _;rw[iy];exact List.perm_append_comm.trans ((e.2.1).cons _)
 ·show((L++[(d,c,g)]).map λa=>a.2.1).Nodup;rw[iy,jY];refine⟨e.2.2.1,ac,λq m b s r=>?_⟩;obtain⟨a,f,rfl⟩:=eP.1 m;have:=e.2.2.2 a f;grind
 intro a f;rcases h8.1 f with f|f
 ·have:=e.2.2.2 a f;grind
 grind
theorem ME {α:Type} {h:Z}:∀{b:bm α} (a:α->Z) {f:X} {d:α},(b.map a).Nodup->b[f]?=Y d->a d=h->b.eraseIdx f=b.filter λi=>br (a i≠h)
 |[],a,f,d,_,c,_=>by grind
 |x::b,a,0,d,e,c,g=>by simp only[qz,eU] at c;subst c;simp only[h7,jZ] at e;rw[List.eraseIdx_cons_zero,nY,aw (by grind),mh.2];grind
 |x::b,a,f+1,d,e,c,g=>by simp only[vP] at c;simp only[h7,jZ] at e;rw[List.eraseIdx_cons_succ,nY,au,ME a e.2 c g];grind
def kx.del {α:Type} {L:bm (Z×X×α)} {l:bm (Z×α)} {c:X} (b:kx L l c) (d:Z):kx (L.filter λa=>br (a.1≠d)) (jk l d) c:=by
 refine⟨WU b.1,?_,?_,λa e=>b.2.2.2 a (hx.1 e).1⟩
 ·have:=b.2.1.filter (λa=>br (a.1≠d));rw[List.filter_map] at this;exact this
 exact b.2.2.1.sublist (tG.map _)
def aS.Oe (a:hp M w t b l c e2 L):aS M w (.mp t) [.map (Y b)] (Y (l,c)) [b]:=⟨b,e2,L,bn,bn,a.pa,nH.2 a.h,a.n,a.e⟩
def aS.Od (a:aS M w (.mp t) g (Y (l,c)) k):∃b e2 L,g=[.map (Y b)]/\k=[b]/\hp M w t b l c e2 L:=by obtain⟨b,e2,L,d,e,f,h,i,j⟩:=a;exact⟨b,e2,L,d,e,f,nH.1 h,i,j⟩
def aS.adY {a:eD} (d:aS M w (.fw a t) g (Y (l,c)) k):∃b e2 L,g=[.map (Y b)]/\k=[]/\M a b/\hp M w t b l c e2 L:=by obtain⟨b,e2,L,e,f,h,n,i,j,m⟩:=d;exact⟨b,e2,L,e,f,n,h,nH.1 i,j,m⟩
def gS (w:bD) (b:X) (e2:bU cm) (c:X):World:={w with heap:=w.heap.setIfInBounds b (.map e2 c)}
theorem oz (a:w.heap[b]?=Y (.map e2 c)):(gS w b o i).heap[b]?=Y (.map o i):=by grind [Array.getElem?_eq_some_iff,gS]
theorem AL {a:X} (c:i≠b):(gS w b o a).heap[i]?=w.heap[i]?:=by grind [Array.getElem?_setIfInBounds_ne,gS]
theorem Qp:(gS w b o i).heap.size=w.heap.size:=by simp[gS]
theorem acu {es':bU cm} {c':X} (d:w.heap[b]?=Y (.map e2 c)) (a:Addr):(gS w b es' c').cell? a=w.cell? a:=by grind [alw,AL,oz,aio]
theorem acv {es':bU cm} {c':X} (d:w.heap[b]?=Y (.map e2 c)) (a:Addr):(gS w b es' c').frozen? a=w.frozen? a:=by grind [alx,AL,oz,ajM]
def ET {a:X} (c:i≠b):c5 w (gS w b o a) i:=.of_heap (AL c)
theorem hp.update (f:hp M w t b l c e2 L) (I:P.underlying x=Y (.map a T)) (E:P.underlying a=Y (.int v)) (d:Z) {o:t.den} (ap:g.length=t.size) (ci:aS M w t g o []):∃u K,(ah2 x (.map (Y b)) (.int .i64 d) (cW t g)).run P w=.ok () (gS w b u (bif (gq l d).isSome then c else c+1))/\(∀{y:eD->X->Prop},(∀r d,M r d->y r d/\d≠b)->hp y (gS w b u (bif (gq l d).isSome then c else c+1)) t b (kI l d o) (bif (gq l d).isSome then c else c+1) u K)/\kQ w (gS w b u (bif (gq l d).isSome then c else c+1)) b:=by
 have bl:∀{y:eD->X->Prop} {u:bU cm} {N:X},(∀r d,M r d->y r d/\d≠b)->∀{g:ag5} {o:t.den},aS M w t g o []->aS y (gS w b u N) t g o []:=
  λz _ _ ce=>ce.mono (λr d C=>⟨(z r d C).1,ET (z r d C).2⟩) ac
 obtain⟨q,cv⟩:=f.pa.put d o;rcases f.find (P:=P) E d with⟨D,G,H⟩|⟨B,dl,ds,co,D,G,H,ad,cs,am⟩
 ·rw[D] at q|-;have C:d∉L.map (·.1):=λc1=>(by grind);simp only[akw,bO] at q|-;have ao:(u2 L d o c).1=L++[(d,c,o)]:=(by simp_all [aw,u2]);rw[ao] at q;refine⟨e2.push ⟨.int .i64 d,cW t g,c⟩,L++[(d,c,o)],?_,λz=>⟨q,oz f.h,by simp[f.n],λm k p=>?_⟩,?_⟩
  ·simp only[ah2,bY,b7 I,b1,run_getObj_map f.h,ox E,H];exact qk f.h
  ·rcases cS m L.length with F|F
   ·rw[qy F] at p;obtain⟨U,Q,R,S⟩:=f.e m k p;grind
   rw[pC F] at p;have a0:m-L.length=0:=(by grind);rw[a0] at p;simp only[qz,eU] at p;subst p;exact⟨g,ap,by rw[Array.getElem?_push,au (by rw[f.n];omega)],bl z ci⟩
  intro V O A;rw[nH.2 f.h] at A;cases A;refine⟨_,_,nH.2 (oz f.h),Nat.le_succ _,λm s av an=>?_⟩;grind
 rw[D] at q|-;have C:d∈L.map (·.1):=eP.2 ⟨_,jd G,bn⟩;simp only[ajN,bG] at q|-;have ao:(u2 L d o c).1=L.map λk=>if k.1=d then(d,k.2.1,o) else k:=by simp_all [au,u2]
 rw[ao] at q;have c2:∀(m:X) (k:Z×X×t.den),L[m]?=Y k->k.1=d->m=B:=λm k p s=>(by have bs:=f.pa.nd;have a3:m<(L.map (·.1)).length:=(by grind);have:=ajO a3 bs (i:=m) (j:=B);grind);refine⟨e2.modify B λs=>{s with key:=.int .i64 d,val:=cW t g},L.map λk=>if k.1=d then(d,k.2.1,o) else k,?_,λz=>⟨q,oz f.h,by simp[f.n],λm k p=>?_⟩,?_⟩
 ·have a4:(aiG (((e2[B]?).map (·.key)).getD (.int .i64 d)) (.int .i64 d)).run P w=.ok (.int .i64 d) w:=by
   rw[ad];simp[aiG,akx]
  simp only[ah2,bY,b7 I,b1,run_getObj_map f.h,ox E,am,a4];exact qk f.h
 ·rw[jn] at p;obtain⟨J,bx,rfl⟩:=fB.1 p;by_cases s:J.1=d
  ·grind
  rw[aw s];obtain⟨U,Q,R,S⟩:=f.e m J bx;grind
 intro V O A;rw[nH.2 f.h] at A;cases A;refine⟨_,_,nH.2 (oz f.h),bd _,λm s av an=>?_⟩;grind
theorem hp.delete (d:hp M w t b l c e2 L) (H:P.underlying x=Y (.map a T)) (u:P.underlying a=Y (.int v)) (f:Z) (av:bF) (O:bF):∃k N,(aky #[x,O] av #[.map (Y b),.int .i64 f]).run P w=.ok (.tuple #[]) (gS w b k c)/\(∀{p:eD->X->Prop},(∀g f,M g f->p g f/\f≠b)->hp p (gS w b k c) t b (jk l f) c k N)/\kQ w (gS w b k c) b:=by
 have a4:∀{p:eD->X->Prop} {k:bU cm} {Q:X},(∀g f,M g f->p g f/\f≠b)->∀{C:ag5} {K:t.den},aS M w t C K []->aS p (gS w b k Q) t C K []:=
  λr _ _ ap=>ap.mono (λg f J=>⟨(r g f J).1,ET (r g f J).2⟩) ac
 rcases d.find (P:=P) u f with⟨V,s,F⟩|⟨o,bs,bx,a0,V,s,F,G,a3,ad⟩
 ·have ao:jk l f=l:=by
   unfold jk;rw[mh];intro j bl;simp only[ahD];grind [NU]
  refine⟨e2,L,?_,λr=>⟨by rw[ao];exact d.pa,oz d.h,d.n,λi j m=>?_⟩,?_⟩
  ·simp only[aky,bY,b7 H,b1,run_getObj_map d.h,ox u,F,akz,qz,vP];rw[qk d.h];rfl
  ·obtain⟨D,z,A,B⟩:=d.e i j m;grind
  intro U R q;rw[nH.2 d.h] at q;cases q;exact⟨_,_,nH.2 (oz d.h),bd _,λi E I _=>⟨i,E,I,bn,bn⟩⟩
 have S:L.eraseIdx o=L.filter λj=>br (j.1≠f):=ME (·.1) d.pa.nd s bn;refine⟨e2.eraseIdxIfInBounds o,L.eraseIdx o,?_,λr=>⟨by rw[S];exact d.pa.del f,oz d.h,?_,λi j m=>?_⟩,?_⟩
 ·simp only[aky,bY,b7 H,b1,run_getObj_map d.h,ox u,ad,akz,qz,vP];rw[qk d.h];rfl
 ·have y:o<e2.size:=(rN.1 G).1;have am:o<L.length:=(hJ.1 s).1;rw[alD,aip y,Array.size_eraseIdx,List.length_eraseIdx,au am,d.n]
 ·have y:o<e2.size:=(rN.1 G).1;rw[List.getElem?_eraseIdx] at m;rw[alD,aip y];split at m
  ·rename_i an;obtain⟨D,z,A,B⟩:=d.e i j m;grind
  rename_i an;obtain⟨D,z,A,B⟩:=d.e (i+1) j m;grind
 intro U R q;rw[nH.2 d.h] at q;cases q;refine⟨_,_,nH.2 (oz d.h),bd _,λi E I _=>?_⟩;grind
end
end
section
section
variable {E:fy} {C:eZ} {st:aM} {a:Act} {w:bD} {I:X->Prop} {rt:X->ag5} {fp:X->ahb} {o:bQ} {Q:aj->bm (X×aD)->Prop}
def k1 (tt:bm (bF×ai)) (b:bF):bv ai:=match aq tt b with|some (.mp a)=>Y a|some (.fw _ a)=>Y a|_=>bo
theorem k1.ok {c:bF} {f:ai} (d:k1 E.tt c=Y f):∃a b,E.P.underlying c=Y (.map a b)/\E.P.underlying a=Y (.int .i64)/\fi E.P f b:=by
 unfold k1 at d;split at d
 ·rename_i k e;cases d;obtain⟨j,a,b,_,_,_,_,g,h,i⟩:=E.ok c _ e;grind
 ·rename_i l k e;cases d;obtain⟨j,a,b,_,_,_,_,g,h,i⟩:=E.ok c _ e;grind
 grind
def xA (tt:bm (bF×ai)) (d:bm (X×ai)) (e:bm (X×aD)) (a:X) (c:bF):ia:=
 match k1 tt c,aq d a,aq e a with
 |some f,Y (.mp b),bo=>bif a9 f b then .e4 (.ref a []) [(a,⟨.mp b,Y ([],0)⟩)] else .bad
 |_,_,_=>.bad
theorem Xi (f:cM C st a.tmps w I rt fp) (k:o.op=.makeMap x bo) (c:(xA E.tt l st.h b x).K Q):Yields E C st a w I rt fp o Q:=by
 unfold xA at c;split at c
 case h_2=>exact c.elim
 rename_i m d p q g;cases e:a9 m d with
 |false=>rw[e] at c;exact c.elim
 |true=>
 rw[e] at c;have i:(w.alloc (.map #[] 0)).heap[w.heap.size]?=Y (.map #[] 0):=(by show(w.heap.push _)[w.heap.size]?=_;grind);refine⟨.map (Y w.heap.size),w.alloc (.map #[] 0),I,λ_=>[.map (Y w.heap.size)],λ_=>[w.heap.size],.ref b [],[(b,⟨.mp d,Y ([],0)⟩)],?_,.alloc w _,λ_ c=>c,λ_ c=>.inl c,.one g (aS.Oe (hp.empty _ _ i)) ac (λn e=>?_),?_,c⟩
 ·simp[bL,k,Instr.makeMap,newObj,Sem.run]
 ·simp only[gj] at e;subst e;exact⟨bd _,ac,λc=>by have:=f.ib _ (.inl c);omega⟩
 have j:aq ([(b,(⟨.mp d,Y ([],0)⟩:aD))]++st.h) b=Y ⟨.mp d,Y ([],0)⟩:=(by rw[yp,dg,au bn]);refine .ref (t:=⟨.mp d,Y ([],0)⟩) (τ':=.mp d) (loc:=bo) (cs:=[.map (Y w.heap.size)]) j ?_;have:fh [(b,(⟨.mp d,Y ([],0)⟩:aD))] (λ_=>[aiH (Y w.heap.size)]) rt b=[.map (Y w.heap.size)]:=(by simp[fh,dg]);grind [aX.here]
def DY (a:ai) (c:bv (bm (Z×a.den)×X)) (d:a.den) (b:Z):bA->aj
 |true=>.ff [.val a ((mD c b).getD d),.val .bool (mD c b).isSome]
 |false=>.val a ((mD c b).getD d)
def uU (tt:bm (bF×ai)) (j:bm (X×aD)) (i:bF) (k c:aj) (f:bA):ia:=
 match k1 tt i,c with
 |some h,.val (.int .i64) c=>match k with
  |.val (.fw l a) b=>match mb a with
   |some d=>bif a9 h a then .e4 (DY a b d c f) [] else .bad
   |none=>.bad
  |.ref id g=>match aq j id with
   |some e=>match fk e.1 g with
    |some (.mp a)=>match mb a with
     |some d=>bif a9 h a then .part (bv (bm (Z×a.den)×X)) (λb=>eN e.1 e.2 g (.mp a) b) (λb=>(DY a b d c f,[])) else .bad
     |none=>.bad
    |_=>.bad
   |none=>.bad
  |_=>.bad
 |_,_=>.bad
theorem NO {k:bF} (r:E.P.underlying k=Y (.map x T)) (f:E.P.underlying x=Y (.int .i64)) (M:fi E.P d T) {H:bM} {e:bA} (Q:o.op=.lookup k c H e) {n:Z} (O:a.eval H=.int .i64 n) {u:d.den} (S:mb d=Y u) {m:bv (bm (Z×d.den)×X)} (g:(m=bo/\a.eval c=.map bo)\/∃l s p z y,m=Y (s,p)/\a.eval c=.map (Y l)/\hp (bf I C.B) w d l s p z y):∃t,(bL a.eval o).run E.P w=.ok (.value t) w/\∀A:bm (X×aD),cP (bf I C.B) w A rt fp (DY d m u n e) t:=by
 obtain⟨G,v,ax,V,ad,a3⟩:=vC M S;have F:(ahu T).run E.P w=.ok v w:=(by simp[ahu,ahL,ax,V]);have U:∃i,aS (bf I C.B) w d i ((mD m n).getD u) []/\(ajP k (a.eval c) (.int .i64 n) e).run E.P w=.ok (if e then .tuple #[cW d i,.bool (mD m n).isSome] else cW d i) w:=by
  rcases g with⟨rfl,g⟩|⟨l,s,p,z,y,rfl,g,q⟩
  ·refine⟨v.cells.toList,by grind [mD],?_⟩;rw[g];have N:(ai8 x (.int .i64 n) []).run E.P w=.ok bo w:=JA f bn;simp only[ajP,bY,b7 r,b1,cy,ox f,N,F];rw[<-ad];cases e<;>rfl
  rw[g];rcases q.find (P:=E.P) f n with⟨b,_,K⟩|⟨a0,a4,bl,J,b,_,an,ap,av,L⟩
  ·refine⟨v.cells.toList,by grind [mD],?_⟩;simp only[ajP,bY,b7 r,b1,cy,run_getObj_map q.h,ox f,K,F];grind [akw,mD]
  refine⟨J,by grind [mD],?_⟩;simp only[ajP,bY,b7 r,b1,cy,run_getObj_map q.h,ox f,L];grind [ajN,mD]
 obtain⟨i,D,R⟩:=U;refine⟨_,by simp only[bL,Q,O,bY,R];rfl,λA=>?_⟩;cases e with
 |false=>exact .val D
 |true=>
  refine .ff ac (λG am t b j=>?_)
  match G with
  |0=>simp at b j;subst b;subst j;exact .val D
  |1=>simp at b j;subst b;subst j;exact .bool _
  |n+2=>grind
theorem aS.Iw {b:bv (bm (Z×d.den)×X)} (f:aS e w (.mp d) g b k):(b=bo/\g=[.map bo]/\k=[])\/∃a h c j i,b=Y (h,c)/\g=[.map (Y a)]/\k=[a]/\hp e w d a h c j i:=by
 cases b with
 |none=>exact .inl ⟨bn,f.2,f.1⟩
 |some l=>
  obtain⟨h,c⟩:=l;obtain⟨a,j,i,m,n,o⟩:=f.Od;grind
theorem aS.Rk {l:eD} {a:bv (bm (Z×d.den)×X)} (j:aS e w (.fw l d) g a k):(a=bo/\g=[.map bo])\/∃b f c i h,a=Y (f,c)/\g=[.map (Y b)]/\hp e w d b f c i h:=by
 cases a with
 |none=>exact .inl ⟨bn,j.2⟩
 |some m=>
  obtain⟨f,c⟩:=m;obtain⟨b,i,h,n,_,_,o⟩:=j.adY;grind
theorem WO (s:cM C st a.tmps w I rt fp) {j:bM} {J:bA} (F:o.op=.lookup x c j J) (b:(uU E.tt st.h x (aU st.g c) (aU st.g j) J).K Q):Yields E C st a w I rt fp o Q:=by
 have f:=s.aU c;have t:=s.aU j;unfold uU at b;split at b
 case h_2=>exact b.elim
 rename_i O bx R P;obtain⟨a0,a3,L,M,N⟩:=k1.ok R;rw[P] at t;generalize D:a.eval j=bs at t;cases t with|val ad=>
 obtain⟨_,rfl⟩:=ad;split at b
 ·rename_i av B y r;split at b
  case h_2=>exact b.elim
  rename_i ap u;cases e:a9 O B with
  |false=>rw[e] at b;exact b.elim
  |true=>
  rw[e] at b;rw[r] at f;generalize i:a.eval c=an at f;cases f with|val V=>
  obtain⟨am,z,A⟩:=NO (rt:=rt) (fp:=fp) (I:=I) (C:=C) (E:=E) (w:=w) (a:=a) (m:=y) L M (N.lay e) F D u (by
   rcases V.Rk with⟨ao,d⟩|⟨l,v,n,q,k,ao,d,p⟩
   ·exact .inl ⟨ao,by rw[i,d];rfl⟩
   exact .inr ⟨l,v,n,q,k,ao,by rw[i,d];rfl,p⟩)
  exact .pure z (A _) b
 ·rename_i id ce r;split at b
  case h_2=>exact b.elim
  rename_i ci G;split at b
  case h_2=>exact b.elim
  rename_i B bl;split at b
  case h_2=>exact b.elim
  rename_i ap u;cases e:a9 O B with
  |false=>rw[e] at b;exact b.elim
  |true=>
  rw[e] at b;obtain⟨y,S,b⟩:=b;rw[r] at f;generalize i:a.eval c=an at f;cases f with|ref H T=>
  rw[G] at H;cases H;obtain⟨rfl,a4,U,_⟩:=s.kY G S T;obtain⟨am,z,A⟩:=NO (rt:=rt) (fp:=fp) (I:=I) (C:=C) (E:=E) (w:=w) (a:=a) (m:=y) L M (N.lay e) F D u (by
   rcases U.Iw with⟨ao,d,_⟩|⟨l,v,n,q,k,ao,d,_,p⟩
   ·exact .inl ⟨ao,by rw[i,d];rfl⟩
   exact .inr ⟨l,v,n,q,k,ao,by rw[i,d];rfl,p⟩)
  exact .pure z (A _) b
 exact b.elim
def u0 (tt:bm (bF×ai)) (f:bm (X×aD)) (e:bF) (g:aj):ia:=
 match k1 tt e with
 |none=>.bad
 |some _=>match g with
  |.val (.fw _ b) a=>.e4 (.val (.int .i64) (xw (α:=b.den) a)) []
  |.ref id d=>match aq f id with
   |some c=>match fk c.1 d with
    |some (.mp b)=>.part (bv (bm (Z×b.den)×X)) (λa=>eN c.1 c.2 d (.mp b) a) (λa=>(.val (.int .i64) (xw a),[]))
    |_=>.bad
   |none=>.bad
  |_=>.bad
def Ob {q:bF} (l:E.P.underlying x=Y (.map T q)) (p:o.op=.call {callee:=.builtin .len,args:=#[c],argTypes:=#[x]}) {m:bv (bm (Z×d.den)×X)} (b:(m=bo/\a.eval c=.map bo)\/∃f e g i k,m=Y (e,g)/\a.eval c=.map (Y f)/\hp (bf I C.B) w d f e g i k):(bL a.eval o).run E.P w=.ok (.value (.int .i64 (xw m))) w:=by
 rcases b with⟨rfl,b⟩|⟨f,e,g,i,k,rfl,b,j⟩
 ·simp[bL,p,ahU,invoke,aib,b,akq,b7 l,goInt,xw]
 have r:i.size=e.length:=(by rw[j.n,j.pa.len]);simp only[bL,p,ahU,invoke,aib,bY,cy,b1,ajQ,h7,aiq,b,akq,akz,qz,b7 l,run_getObj_map j.h,goInt,xw,r]
theorem Xk (s:cM C st a.tmps w I rt fp) (t:o.op=.call {callee:=.builtin .len,args:=#[c],argTypes:=#[x]}) (b:(u0 E.tt st.h x (aU st.g c)).K Q):Yields E C st a w I rt fp o Q:=by
 have e:=s.aU c;unfold u0 at b;split at b
 ·exact b.elim
 rename_i S z;obtain⟨J,L,y,P,R⟩:=k1.ok z;generalize f:a.eval c=T at e;split at b
 ·rename_i H G r p;rw[p] at e;cases e with|val F=>
  refine .pure (Ob (I:=I) (C:=C) (m:=r) y t ?_) (.int _ _) b;rcases F.Rk with⟨ao,d⟩|⟨j,q,k,n,i,ao,d,l⟩
  ·exact .inl ⟨ao,by rw[f,d];rfl⟩
  exact .inr ⟨j,q,k,n,i,ao,by rw[f,d];rfl,l⟩
 ·rename_i id O p;split at b
  case h_2=>exact b.elim
  rename_i U u;split at b
  case h_2=>exact b.elim
  rename_i G N;obtain⟨r,A,b⟩:=b;rw[p] at e;cases e with|ref v B=>
  rw[u] at v;cases v;obtain⟨rfl,M,D,_⟩:=s.kY u A B;refine .pure (Ob (I:=I) (C:=C) (m:=r) y t ?_) (.int _ _) b;rcases D.Iw with⟨ao,d,_⟩|⟨j,q,k,n,i,ao,d,_,l⟩
  ·exact .inl ⟨ao,by rw[f,d];rfl⟩
  exact .inr ⟨j,q,k,n,i,ao,by rw[f,d];rfl,l⟩
 exact b.elim
end
end
section
section
variable {E:fy} {C:eZ} {st:aM} {a:Act} {w:bD} {I:X->Prop} {rt:X->ag5} {fp:X->ahb} {o:bQ} {Q:aj->bm (X×aD)->Prop}
def Ex (b c d:aj):ia:=
 match b with
 |.val .bool b=>.part bA (λa=>b=a) (λa=>(match a with|true=>c|false=>d,[]))
 |_=>.bad
theorem aaU (e:cM C st a.tmps w I rt fp) {d:bM} (m:o.op=.pick c h d) (b:(Ex (aU st.g c) (aU st.g h) (aU st.g d)).K Q):Yields E C st a w I rt fp o Q:=by
 have f:=e.aU c;unfold Ex at b;split at b
 case h_2=>exact b.elim
 rename_i i j;obtain⟨i,rfl,b⟩:=b;rw[j] at f;generalize n:a.eval c=l at f;cases f with|val k=>
 obtain⟨_,rfl⟩:=k;cases i
 ·exact .pure (v:=a.eval d) (by simp_all [bL,cW,asBool]) (e.aU d) b
 exact .pure (v:=a.eval h) (by simp_all [bL,cW,asBool]) (e.aU h) b
def J5 (e:UnOp) (c:aj):ia:=
 match e,c with
 |.neg,.val (.int a) c=>.part Z (λb=>a.wrap (0-c)=b) (λb=>(.val (.int a) b,[]))
 |.xor,.val (.int a) c=>.part Z (λb=>a.wrap (ch a.bits (if a.signed then-1 else a.max)^^^ch a.bits c).toNat=b) (λb=>(.val (.int a) b,[]))
 |.not,.val .bool d=>.e4 (.val .bool (!d)) []
 |_,_=>.bad
theorem adx (j:cM C st a.tmps w I rt fp) {i:UnOp} (p:o.op=.unOp i x c) (b:(J5 i (aU st.g c)).K Q):Yields E C st a w I rt fp o Q:=by
 have d:=j.aU c;unfold J5 at b;generalize q:a.eval c=m at d;split at b
 ·rename_i f k e;obtain⟨l,rfl,b⟩:=b;rw[e] at d;cases d with|val h=>
  obtain⟨_,rfl⟩:=h;exact .pure (v:=.int f _) (by simp_all [bL,cW,akA,Op.intArith]) (.int f _) b
 ·rename_i f k e;obtain⟨l,rfl,b⟩:=b;rw[e] at d;cases d with|val h=>
  obtain⟨_,rfl⟩:=h;exact .pure (v:=.int f _) (by simp_all [bL,cW,akA,Op.intBits]) (.int f _) b
 ·rename_i n e;rw[e] at d;cases d with|val h=>
  obtain⟨_,rfl⟩:=h;exact .pure (v:=.bool _) (by simp_all [bL,cW,akA]) (.bool _) b
 exact b.elim
def BG (tt:bm (bF×ai)) (e d:bF) (a:aj):ia:=
 match aq tt e,aq tt d,a with
 |some (.int _),Y (.int c),.val (.int _) a=>.part Z (λb=>c.wrap a=b) (λb=>(.val (.int c) b,[]))
 |_,_,_=>.bad
theorem TL (j:cM C st a.tmps w I rt fp) (m:o.op=.convert T x c) (b:(BG E.tt T x (aU st.g c)).K Q):Yields E C st a w I rt fp o Q:=by
 have d:=j.aU c;unfold BG at b;split at b
 case h_2=>exact b.elim
 rename_i p e q r h i f;obtain⟨u,rfl,b⟩:=b;generalize n:a.eval c=l at d;rw[f] at d;cases d with|val k=>
 obtain⟨_,rfl⟩:=k;obtain⟨_,_,_,_,_,s⟩:=E.ok T _ h;obtain⟨_,_,_,_,_,t⟩:=E.ok x _ i;exact .pure (v:=.int e _) (by simp_all [b7,bL,cW,convert,Conv.intToInt]) (.int e _) b
def qo (c:ByteArray) (a:Z):ag6:=if 0<=a then(c[a.toNat]?).map λb=>(b.toNat:Z) else bo
def DU:ByteArray:=⟨#[0,1,2,2,3,3,3,3,4,4,4,4,4,4,4,4,5,5,5,5,5,5,5,5,5,5,5,5,5,5,5,5,6,6,6,6,6,6,6,6,6,6,6,6,6,6,6,6,6,6,6,6,6,6,6,6,6,6,6,6,6,6,6,6,7,7,7,7,7,7,7,7,7,7,7,7,7,7,7,7,7,7,7,7,7,7,7,7,7,7,7,7,7,7,7,7,7,7,7,7,7,7,7,7,7,7,7,7,7,7,7,7,7,7,7,7,7,7,7,7,7,7,7,7,7,7,7,7,8,8,8,8,8,8,8,8,8,8,8,8,8,8,8,8,8,8,8,8,8,8,8,8,8,8,8,8,8,8,8,8,8,8,8,8,8,8,8,8,8,8,8,8,8,8,8,8,8,8,8,8,8,8,8,8,8,8,8,8,8,8,8,8,8,8,8,8,8,8,8,8,8,8,8,8,8,8,8,8,8,8,8,8,8,8,8,8,8,8,8,8,8,8,8,8,8,8,8,8,8,8,8,8,8,8,8,8,8,8,8,8,8,8,8,8,8,8,8,8,8,8,8,8,8,8,8,8]⟩
def EY (tt:bm (bF×ai)) (d:bF) (f e:aj):ia:=
 match aq tt d,f,e with
 |some .str,.df (.string c),.val (.int _) b=>.part Z (λa=>qo c b=Y a) (λa=>(.val (.int .u8) a,[]))
 |some .str,.val .str c,.val (.int _) b=>.part Z (λa=>qo c b=Y a) (λa=>(.val (.int .u8) a,[]))
 |_,_,_=>.bad
theorem acY (y:cM C st a.tmps w I rt fp) (H:o.op=.index x h c) (l:(EY E.tt x (aU st.g h) (aU st.g c)).K Q):Yields E C st a w I rt fp o Q:=by
 have j:=y.aU h;have i:=y.aU c;have u:∀(f:ByteArray) (k:cx) (e b:Z),aq E.tt x=Y .str->a.eval h=.string f->a.eval c=.int k e->qo f e=Y b->Q (.val (.int .u8) b) []->Yields E C st a w I rt fp o Q:=by
  intro f k e b m q p d n;obtain⟨_,_,_,_,_,z⟩:=E.ok x _ m;refine .pure (v:=.int .u8 b) ?_ (.int .u8 b) n;unfold qo at d;split at d
  case isFalse=>cases d
  rename_i F;obtain⟨D,G,rfl⟩:=fB.1 d;simp_all [b7,bL,Instr.index,ail]
 unfold EY at l;split at l
 ·rename_i f k e m q p;obtain⟨b,d,n⟩:=l;rw[q] at j;rw[p] at i;generalize s:a.eval h=A at j;generalize r:a.eval c=z at i;cases j;cases i with|val t=>
  obtain⟨_,rfl⟩:=t;exact u f k e b m s r d n
 ·rename_i f k e m q p;obtain⟨b,d,n⟩:=l;rw[q] at j;rw[p] at i;generalize s:a.eval h=A at j;generalize r:a.eval c=z at i;cases j with|val B=>
  obtain⟨_,rfl⟩:=B;cases i with|val t=>
  obtain⟨_,rfl⟩:=t;exact u f k e b m s r d n
 exact l.elim
def Dq (d:aj) (c:X):ia:=
 match d with
 |.ff b=>match b[c]? with
  |some a=>.e4 a []
  |none=>.bad
 |_=>.bad
theorem US (j:cM C st a.tmps w I rt fp) (q:o.op=.extract c b) (d:(Dq (aU st.g c) b).K Q):Yields E C st a w I rt fp o Q:=by
 have f:=j.aU c;unfold Dq at d;generalize r:a.eval c=n at f;split at d
 case h_2=>exact d.elim
 rename_i s i;split at d
 case h_2=>exact d.elim
 rename_i h l;rw[i] at f;cases f with|ff p k=>
 rename_i e;have m:b<e.size:=(by grind);have:e[b]?=Y e[b]:=AY m;exact .pure (v:=e[b]) (by simp_all [bL,Instr.extract]) (k b h _ l this) d
def xB (c:bA) (a:aj):bm aj->ia
 |[]=>.e4 a []
 |y::d=>match a,y with
  |.val (.int b) a,.val (.int e) y=>if b=e then(match c with|true=>xB c (.val (.int b) (if y>a then y else a)) d|false=>xB c (.val (.int b) (if y<a then y else a)) d) else .bad
  |_,_=>.bad
def D7 (j:cM C st a.tmps w I rt fp) (m:bA):∀(e:bm bM) (i:aj) (f:Value),cP (bf I C.B) w st.h rt fp i f->(xB m i (e.map (aU st.g))).K Q->∃d c,((e.map a.eval).foldlM (match m with|true=>Builtin.max2|false=>Builtin.min2) f).run E.P w=.ok d w/\cP (bf I C.B) w st.h rt fp c d/\Q c []
 |[],i,f,k,b=>⟨f,i,bn,k,b⟩
 |y::e,i,f,k,b=>by
  have l:=j.aU y;simp only[h7,xB] at b;generalize p:a.eval y=A at l;split at b
  case h_2=>exact b.elim
  rename_i q x v z r;split at b
  case isFalse=>exact b.elim
  rename_i s;subst s;rw[r] at l;cases k with|val t=>cases l with|val u=>
  obtain⟨_,rfl⟩:=t;obtain⟨_,rfl⟩:=u;cases m
  ·obtain⟨d,c,ax,n,o⟩:=D7 j bq e _ _ (.int q _) b;refine⟨d,c,?_,n,o⟩;simp only[h7,alE,p,bY];exact ax
  obtain⟨d,c,ax,n,o⟩:=D7 j bp e _ _ (.int q _) b;refine⟨d,c,?_,n,o⟩;simp only[h7,alE,p,bY];exact ax
def HV:aj->bA
 |.val _ _|.df _|.eA _ _=>bp
 |_=>bq
def g3 (tt:bm (bF×ai)) (i:bm (X×ai)) (d:bm (X×aD)) (b:bM->aj) (g:X) (h:Op):ia:=
 match h with
 |.move a=>.e4 (b a) []
 |.assign a=>bif HV (b a) then .e4 (b a) [] else .bad
 |.pick f a n=>Ex (b f) (b a) (b n)
 |.alloc c=>wc tt i d g c
 |.box c a=>yF tt d g c (b a)
 |.build c l=>yE tt b c l.toList
 |.buildSlice c e l=>wq tt i d b g c e l.toList
 |.load c a=>uT tt d c (b a)
 |.nilCheck a=>u3 d (b a)
 |.binOp h c a n _=>match b a,b n with
  |.val .bool x,.val .bool y=>match aq tt c with
   |some .bool=>FX h (.val .bool x) (.val .bool y)
   |_=>.bad
  |.val (.int k) v,.val (.int s) e=>lW h k v s e
  |_,_=>.bad
 |.unOp h _ a=>J5 h (b a)
 |.convert z g a=>BG tt z g (b a)
 |.makeSlice c t f=>uW tt i d g c (b t) (b f)
 |.slice c a u r bo=>vp tt d c (b a) (u.map b) (r.map b)
 |.fieldAddr c a e=>uJ tt d c (b a) e
 |.field c a e=>w7 tt d c (b a) e
 |.indexAddr c a j=>uP tt d c (b a) (b j)
 |.index c a j=>EY tt c (b a) (b j)
 |.extract a e=>Dq (b a) e
 |.call f=>match f.callee,f.args.toList,f.argTypes.toList with
  |.builtin .len,[a],[c]=>match gY tt c with
   |some _=>uS tt d c (b a)
   |none=>u0 tt d c (b a)
  |.builtin .max,a::m,_=>xB bp (b a) (m.map b)
  |.builtin .min,a::m,_=>xB bq (b a) (m.map b)
  |_,_,_=>.bad
 |.makeMap c bo=>xA tt i d g c
 |.lookup c a k w=>uU tt d c (b a) (b k) w
 |.makeFunc (.func p) q o=>bif q.isEmpty then .e4 (.eA p (o.toList.map b)) [] else .bad
 |_=>.bad
theorem UC (f:cM C st a.tmps w I rt fp) (c:(g3 E.tt l st.h (aU st.g) b o.op).K Q):Yields E C st a w I rt fp o Q:=by
 unfold g3 at c;split at c
 ·rename_i d e;exact .pure (v:=a.eval d) (by simp[bL,e]) (f.aU d) c
 ·rename_i d e;cases z:HV (aU st.g d) with
  |false=>rw[z] at c;exact c.elim
  |true=>rw[z] at c;exact .pure (v:=a.eval d) (by simp[bL,e]) (f.aU d) c
 ·grind [aaU]
 ·grind [Sy]
 ·grind [S9]
 ·grind [S6]
 ·grind [Td]
 ·grind [WL]
 ·grind [Xy]
 ·rename_i am k d r an e;split at c
  ·rename_i L M s t;split at c
   ·rename_i J;refine Lk f e (λ_ _ _ _=>?_) (by grind);exact(E.ok k _ J).choose_spec.2.2.2.2
   exact c.elim
  ·rename_i s t;refine Lk f e (λL M _ T=>?_) (by rw[s,t];exact c);grind
  exact c.elim
 ·grind [adx]
 ·grind [TL]
 ·grind [W0]
 ·grind [acF]
 ·grind [Va]
 ·grind [Vc]
 ·grind [VV]
 ·grind [acY]
 ·grind [US]
 ·rename_i F e;obtain⟨P,m,B⟩:=F;simp only at c;split at c
  ·rename_i d k ao R;have j:m=#[d]:=(by grind);have S:B=#[k]:=(by grind);grind [Xk,WE]
  ·rename_i d i ao;have j:m=(d::i).toArray:=(by grind);obtain⟨q,D,ax,n,p⟩:=D7 (E:=E) f bp i _ _ (f.aU d) c;refine .pure (v:=q) ?_ n p;simp only[bL,e,ahU,invoke,aib,bY,cy,b1,j,Builtin.max_];simp_all
  ·rename_i d i ao;have j:m=(d::i).toArray:=(by grind);obtain⟨q,D,ax,n,p⟩:=D7 (E:=E) f bq i _ _ (f.aU d) c;refine .pure (v:=q) ?_ n p;simp only[bL,e,ahU,invoke,aib,bY,cy,b1,j,Builtin.min_];simp_all
  exact c.elim
 ·grind [Xi]
 ·grind [WO]
 ·rename_i H u G e;cases A:u.isEmpty with
  |false=>rw[A] at c;exact c.elim
  |true=>
   rw[A] at c;obtain rfl:u=#[]:=(by grind);refine .pure (v:=.func (.func H) #[] (G.map a.eval)) (by simp[bL,e,Instr.makeFunc]) (.eA ac (λad d O x y=>?_)) c;rw[jn] at x;rw[Array.getElem?_map] at y;obtain⟨r,U,rfl⟩:=fB.1 x;obtain⟨N,V,rfl⟩:=fB.1 y;obtain rfl:r=N:=(by grind);exact f.aU r
 exact c.elim
end
end
def eR (b:X) (a:ahb):bA:=a.any λc=>bI c b
theorem hd:eR b k=bp↔b∈k:=by grind [ai9,ahZ,alF,eR]
def aj.fm (a:ahb) (b:aj):bA:=b.ids.any λc=>eR c a
def vo:bm aZ->bv (bm aZ)
 |.unst::a=>(vo a).map λb=>.unst::b
 |.fst::_=>Y [.snd]
 |.snd::_=>Y [.fst]
 |_=>bo
def rE:bm aZ->bm aZ->bv (bm aZ)
 |p,[]=>vo p
 |.idx _::p,.idx _::a=>rE p a
 |.deref::p,.deref::a=>rE p a
 |.unst::p,.unst::a=>rE p a
 |.fst::p,.fst::a=>rE p a
 |.snd::p,.snd::a=>rE p a
 |_,_=>bo
def HY (a b:bm aZ):bA:=ha a b||(rE a b).isSome
def Qy:∀{p b:bm aZ},vo p=Y b->ha p b=bp
 |.unst::p,b,a=>by obtain⟨d,c,rfl⟩:=fB.1 a;exact Qy (p:=p) c
 |.fst::_,_,a=>by cases a;rfl
 |.snd::_,_,a=>by cases a;rfl
 |[],_,a=>by cases a
 |.idx _::_,_,a=>by cases a
 |.deref::_,_,a=>by cases a
def Qx:∀{q p b:bm aZ},rE p q=Y b->ha p (q++b)=bp
 |[],p,b,a=>by have c:vo p=Y b:=(by cases p<;>exact a);exact Qy c
 |s::q,p,b,a=>by
  cases p with
  |nil=>cases s<;>cases a
  |cons d p=>cases s<;>cases d<;>first|(cases a;done)|exact Qx (q:=q) (p:=p) a
theorem Qz:∀{p e:bm aZ} {τ h:ai},fk τ p=Y h->vo p=Y e->∃(o:ai) (m:X),∀(i:bD) (c:Loc) (g:ag5),∃k,aX i τ c g e o (c.map λd=>(d.1,d.2+m)) k
 |.unst::p,e,τ,h,b,a=>by
  obtain⟨q,l,rfl⟩:=fB.1 a;cases τ with
  |st n=>exact Qz (p:=p) (τ:=n) b l
  |_=>cases b
 |.fst::p,e,τ,h,b,a=>by
  cases a;cases τ with
  |pr f j=>exact⟨j,f.size,λi c g=>⟨_,aX.here⟩⟩
  |_=>cases b
 |.snd::p,e,τ,h,b,a=>by
  cases a;cases τ with
  |pr f j=>
   refine⟨f,0,λi c g=>⟨g.take f.size,?_⟩⟩;have:(c.map λd=>(d.1,d.2+0))=c:=(by simp_all);rw[this];exact aX.here
  |_=>cases b
 |[],_,_,_,_,a=>by cases a
 |.idx _::_,_,_,_,_,a=>by cases a
 |.deref::_,_,_,_,_,a=>by cases a
theorem xX {n:bD}:∀{q p d:bm aZ} {e f:ai} {j:Loc} {i:ag5} {g:ai} {k:Loc} {h:ag5},fk e p=Y f->rE p q=Y d->aX n e j i q g k h->∃l,fk g l=Y f/\vo l=Y d
 |[],p,d,e,f,j,i,g,k,h,c,b,a=>by obtain⟨rfl,_,_⟩:=aX.gz.1 a;have o:vo p=Y d:=(by cases p<;>exact b);grind
 |s::q,p,d,e,f,j,i,g,k,h,c,b,a=>by
  cases p with
  |nil=>cases s<;>cases b
  |cons m p=>
   cases e<;>cases s<;>simp only[aX] at a<;>cases m<;>first|(cases b;done)|skip
   case osl.idx.idx=>obtain⟨_,_,_,_,_,_,_,_,_,a⟩:=a;exact xX (q:=q) (p:=p) c b a
   case optr.deref.deref=>obtain⟨_,_,_,_,_,_,a⟩:=a;exact xX (q:=q) (p:=p) c b a
   case st.unst.unst=>exact xX (q:=q) (p:=p) c b a
   case pr.fst.fst=>exact xX (q:=q) (p:=p) c b a
   case pr.snd.snd=>exact xX (q:=q) (p:=p) c b a
def aX.split {u:bD}:∀{q j:bm aZ} {d k:ai} {g i:Loc} {f h:ag5},aX u d g f (q++j) k i h->∃e c b,aX u d g f q e c b/\aX u e c b j k i h
 |[],j,d,k,g,i,f,h,a=>⟨d,g,f,aX.here,a⟩
 |s::q,j,d,k,g,i,f,h,a=>by
  rw[nW] at a;cases d<;>cases s<;>simp only[aX] at a
  case osl.idx=>
   obtain⟨l,t,x,v,m,ao,n,o,w,a⟩:=a;obtain⟨e,c,b,p,r⟩:=aX.split (q:=q) a;exact⟨e,c,b,⟨l,t,x,v,m,ao,n,o,w,p⟩,r⟩
  case optr.deref=>
   obtain⟨l,t,m,ao,n,o,a⟩:=a;obtain⟨e,c,b,p,r⟩:=aX.split (q:=q) a;exact⟨e,c,b,⟨l,t,m,ao,n,o,p⟩,r⟩
  case st.unst=>exact aX.split (q:=q) a
  case pr.fst=>exact aX.split (q:=q) a
  case pr.snd=>exact aX.split (q:=q) a
theorem aX.upper {B:ai} {c A:bm aZ} (z:fk d c=Y B) (h:rE c n=Y A) (a:aX f d bo y n r (Y (b,i)) g) (x:∀(n:bm aZ) (r:ai) (k:Loc) (g:ag5),ha c n=bp->aX f d bo y n r k g->aX m d bo y n r k g):∃o,aX m d bo y n r (Y (b,i)) o:=by
 obtain⟨F,q,s⟩:=xX z h a;obtain⟨I,E,e⟩:=Qz q s;obtain⟨C,t⟩:=e f (Y (b,i)) g;obtain⟨H,j,l,u,v⟩:=aX.split (x _ _ _ _ (Qx h) (a.append t));have ao:=u.ty;rw[a.ty] at ao;obtain rfl:=gD ao;obtain⟨D,w⟩:=e m j l;obtain⟨_,p,_⟩:=v.lu w;cases j with
 |none=>cases p
 |some G=>
  grind
def k2 (c:bm (X×bm aZ)):aj->bA
 |.ref id []=>c.any λa=>bI a.1 id
 |.ref id b=>c.any λa=>bI a.1 id&&ha a.2 b
 |.addr id b=>c.any λa=>bI a.1 id&&HY a.2 b
 |.view id b _ _=>c.any λa=>bI a.1 id&&ha a.2 b
 |_=>bq
def kj (c:ahb) (b:bm (X×bm aZ)):aj->bA
 |.eA _ f=>f.all λa=>!(a.fm c)||k2 b a
 |.hA a=>k2 b a
 |.app id h _ _ g=>(g.all λe=>!(eR e c))&&b.any λd=>bI d.1 id&&kV d.2 h
 |a=>k2 b a
def fd (b:ahb) (c:bm (X×bm aZ)) (a:aj):aj:=bif a.fm b&&!(kj b c a) then .dead else a
def fH (b:ahb) (c:bm (X×bm aZ)):aj->aj
 |.ff d=>.ff (d.map (fd b c))
 |a=>fd b c a
def kill (b:ahb) (d:bm (X×bm aZ)) (c:bm (X×aj)):bm (X×aj):=c.map λa=>(a.1,fH b d a.2)
def del (a:ahb) (b:bm (X×aD)):bm (X×aD):=b.filter λc=>!(eR c.1 a)
theorem DQ (a:bm aZ):ha [] a=bq:=by grind [ha,nD]
def xi (b:ahb):bm (X×bm aZ):=b.map λa=>(a,[])
theorem p6 (c:ahb) (e:bm (X×bm aZ)):∀(d:bm (X×aj)) (b:X),gt (kill c e d) b=fH c e (gt d b)
 |[],b=>by simp[kill,gt,aq,fH,fd,aj.fm,aj.ids]
 |(f,a)::d,b=>by
  show gt ((f,fH c e a)::kill c e d) b=_;rw[iV,iV];split
  ·rfl
  exact p6 c e d b
theorem mZ (a:ahb):∀(c:bm (X×aD)) (b:X),aq (del a c) b=if b∈a then bo else aq c b
 |[],b=>by simp[del,aq]
 |(d,t)::c,b=>by
  have f:=mZ a c b;simp only[del] at f|-;rw[nY];cases e:eR d a with
  |true=>
   have:d∈a:=hd.1 e;simp only[gT,Bool.false_eq_true,if_false];grind [dg]
  |false=>
   have:d∉a:=λc=>(by grind [hd]);simp only[me,cg];grind [dg]
theorem J8 (a:V.fm k=bq):∀id∈V.ids,id∉k:=λid c b=>by grind [alF,hd,aj.fm]
structure nk (C:eZ) (st:aM) (w w':bD) (I I':X->Prop) (rt:X->ag5) (fp:X->ahb) (S:ahb) (Nw:bm (X×bm aZ)) (new:bm (X×aD)) (rtn:X->ag5) (fpn:X->ahb):Prop where
 size:w.heap.size<=w'.heap.size
 os:w'.os=w.os
 tape:w'.tape=w.tape
 output:w'.output=w.output
 heap:∀b,b<w.heap.size->(∀id∈S,∀t,aq st.h id=Y t->b∉fp id)->w'.heap[b]?=w.heap[b]?
 evo:∀b,b<w.heap.size->kQ w w' b
 i:∀b,I b->I' b
 i2:∀b,I' b->I b\/(b<w'.heap.size/\(w.heap.size<=b\/∃id∈S,∃t,aq st.h id=Y t/\b∈fp id))
 tree:∀id t,aq new id=Y t->(id∈S\/aq st.h id=bo)/\aS (bf I' C.B) w' t.1 (rtn id) t.2 (fpn id)/\(fpn id).Nodup/\∀b∈fpn id,¬I' b/\b<w'.heap.size/\(w.heap.size<=b\/∃Nb∈S,∃t',aq st.h Nb=Y t'/\b∈fp Nb)
 dis:∀i j t u,aq new i=Y t->aq new j=Y u->i≠j->∀b∈fpn i,b∉fpn j
 keep:∀e∈Nw,∀t,aq st.h e.1=Y t->∃t',aq new e.1=Y t'/\t'.1=t.1/\rtn e.1=rt e.1/\(∃aei,fk t.1 e.2=Y aei)/\∀(q:bm aZ) (Rw:ai) (NS:Loc) (LX:ag5),ha e.2 q=bp->aX w t.1 bo (rt e.1) q Rw NS LX->aX w' t.1 bo (rt e.1) q Rw NS LX
 app:∀e∈Nw,∀t,aq st.h e.1=Y t->∀(q:bm aZ) (τ:ai) (xs:bm τ.den) (loc:Loc) (tY:ag5) (f1:ahb),kV e.2 q=bp->τ.kK=bp->aX w t.1 bo (rt e.1) q (.osl τ) loc tY->eN t.1 t.2 q (.osl τ) xs->aS (bf I C.B) w (.osl τ) tY xs f1->∃t',aq new e.1=Y t'/\eN t'.1 t'.2 q (.osl τ) xs/\∀b∈f1,b∈fpn e.1/\c5 w w' b
theorem cM.eC {w':bD} {I':X->Prop} {rtn:X->ag5} {fpn:X->ahb} {S:ahb} {keep:bm (X×bm aZ)} {new:bm (X×aD)} (e:cM U O z f j p q) (l:nk U O f w' j I' p q S keep new rtn fpn):cM U ⟨kill S keep O.g,new++del S O.h⟩ z w' I' (fh new rtn p) (fh new fpn q):=by
 have V:∀a0 a,bf j U.B a0 a->bf I' U.B a0 a/\c5 f w' a:=λa0 a b=>by
  refine⟨?_,.of_heap (l.heap a (e.ib a (m0 b)) (λid _ c k fs=>e.notM k a fs a0 b))⟩;cases a0
  ·exact l.i a b
  exact b.imp (l.i a) id
 have co:∀id c,aq (new++del S O.h) id=Y c->(aq new id=Y c/\fh new rtn p id=rtn id/\fh new fpn q id=fpn id)\/(aq new id=bo/\id∉S/\aq O.h id=Y c/\fh new rtn p id=p id/\fh new fpn q id=q id):=λid c k=>by
  rw[kH,mZ] at k;cases J:aq new id with
  |none=>
   rw[J] at k;simp only[Option.none_or] at k;split at k
   ·cases k
   rename_i D;exact .inr ⟨bn,D,k,by simp[fh,J],by simp[fh,J]⟩
  |some l=>grind [fh]
 have ds:∀id c,aq O.h id=Y c->id∉S->∀a∈q id,c5 f w' a:=λid c k D a b=>.of_heap (l.heap a ((e.tree id c k).2.2 a b).2.2.1 (λI av r H A=>
  e.dis id I c r k H (λd=>D (by grind)) a b A))
 have ex:∀id c,aq O.h id=Y c->id∉S->∀a∈q id,¬I' a:=λid c k D a b K=>by
  have u:=(e.tree id c k).2.2 a b;rcases l.i2 a K with K|⟨_,K|⟨I,av,r,H,A⟩⟩
  ·grind
  ·omega
  exact e.dis id I c r k H (λd=>D (by grind)) a b A
 refine{n:=e.n,i0:=λa b=>l.i a (e.i0 a b),i1:=?_,ib:=?_,tree:=?_,dis:=?_,tmp:=?_,frame:=?_,evo:=λa b=>(e.evo a b).trans (l.evo a (je b e.size)),size:=dh e.size l.size,os:=l.os.trans e.os,tape:=l.tape.trans e.tape,output:=l.output.trans e.output,pin:=e.pin}
 ·intro a b;rcases l.i2 a b with b|⟨_,b|⟨I,av,r,H,A⟩⟩
  ·exact e.i1 a b
  ·exact .inr (.inl (dh e.size b))
  exact .inr ((e.tree I r H).2.2 a A).2.2.2
 ·intro a b;rcases b with b|b
  ·rcases l.i2 a b with b|⟨b,_⟩
   ·exact je (e.ib a (.inl b)) l.size
   omega
  exact je (e.ib a (.inr b)) l.size
 ·intro id c k;rcases co id c k with⟨s,m,w⟩|⟨el,D,s,m,w⟩
  ·obtain⟨_,ax,y,C⟩:=l.tree id c s;rw[m,w];refine⟨ax,y,λa b=>?_⟩;obtain⟨a3,a4,ap⟩:=C a b;rcases ap with ap|⟨I,av,r,H,A⟩
   ·exact⟨a3,λem=>by have:=e.ib a (.inr em);omega,a4,.inl (dh e.size ap)⟩
   have u:=(e.tree I r H).2.2 a A;grind
  obtain⟨ax,y,C⟩:=e.tree id c s;rw[m,w];refine⟨ax.mono V (ds id c s D),y,λa b=>?_⟩;obtain⟨a3,a4,ap,aE⟩:=C a b;exact⟨ex id c s D a b,a4,je ap l.size,aE⟩
 ·intro o ad c M K fz d1 a b;rcases co o c K with⟨s,_,w⟩|⟨el,D,s,_,w⟩<;>rcases co ad M fz with⟨am,_,d7⟩|⟨go,DP,am,_,d7⟩<;>rw[w] at b<;>rw[d7]
  ·exact l.dis o ad c M s am d1 a b
  ·intro A;rcases((l.tree o c s).2.2.2 a b).2.2 with u|⟨I,av,r,H,ci⟩
   ·have:=((e.tree ad M am).2.2 a A).2.2.1;omega
   exact e.dis ad I M r am H (λd=>DP (by grind)) a A ci
  ·intro A;rcases((l.tree ad M am).2.2.2 a A).2.2 with u|⟨I,av,r,H,ci⟩
   ·have:=((e.tree o c s).2.2 a b).2.2.1;omega
   exact e.dis o I c r s H (λd=>D (by grind)) a b ci
  exact e.dis o ad c M s am d1 a b
 ·intro bl;show cP _ _ _ _ _ (gt (kill S keep O.g) bl) _;rw[p6];have x:=e.tmp bl;generalize gt O.g bl=v at x;generalize z.getD bl bW=P at x;suffices ek:∀(v:aj) (P:Value),cP (bf j U.B) f O.h p q v P->cP (bf I' U.B) w' (new++del S O.h) (fh new rtn p) (fh new fpn q) (fd S keep v) P by
   cases v with
   |ff f3=>
    cases x with|ff d2 J=>
    refine .ff (by grind) (λo T M s m=>?_);grind
   |_=>exact ek _ _ x
  clear x;have bx:∀(v:aj) (P:Value),cP (bf j U.B) f O.h p q v P->v.fm S=bq\/k2 keep v=bp->cP (bf I' U.B) w' (new++del S O.h) (fh new rtn p) (fh new fpn q) v P:=by
   intro v P x f1;cases d6:v.fm S with
   |false=>
    refine x.s2 V (λid cs c k=>?_);have D:=J8 d6 id cs;have f0:aq new id=bo:=by
     cases J:aq new id with
     |none=>rfl
     |some c2=>
      rcases(l.tree id c2 J).1 with u|u
      ·grind
      grind
    refine⟨by simp_all [kH,mZ,aw],by grind [fh],by grind [fh],(e.tree id c k).1,ds id c k D⟩
   |true=>
    have L:k2 keep v=bp:=f1.resolve_left (by grind);have bs:∀(id:X) (c:aD),aq O.h id=Y c->∀d∈keep,d.1=id->∃r,aq (new++del S O.h) id=Y r/\r.1=c.1/\fh new rtn p id=p id/\(∃gc,fk c.1 d.2=Y gc)/\
     ∀(u:bm aZ) (d9:ai) (d8:Loc) (ce:ag5),ha d.2 u=bp->aX f c.1 bo (p id) u d9 d8 ce->aX w' c.1 bo (p id) u d9 d8 ce:=by
     intro id c k d E cs;subst cs;obtain⟨r,ax,y,C,an,R⟩:=l.keep d E _ k;grind [kH]
    have dl:∀(id:X) (u:bm aZ),(keep.any λd=>bI d.1 id&&ha d.2 u)=bp->∃d∈keep,d.1=id/\ha d.2 u=bp:=(by simp_all);cases v with
    |ref id Q=>
     cases Q with
     |nil=>
      obtain⟨d,E,m⟩:=py.1 (show(keep.any λd=>bI d.1 id)=bp from L);have m:=fu m;cases x with|ref k F=>
      obtain⟨rfl,rfl,rfl⟩:=aX.gz.1 F;obtain⟨r,ax,y,C,_⟩:=bs id _ k d E m;rw[<-y];refine .ref (loc:=bo) ax ?_;grind [aX.here]
     |cons f8 Q=>
      obtain⟨d,E,m,w⟩:=dl id (f8::Q) L;cases x with|ref k F=>
      obtain⟨r,ax,y,C,an,R⟩:=bs id _ k d E m;have G:=R _ _ _ _ w F;rw[<-C,<-y] at G;exact .ref ax G
    |addr id Q=>
     obtain⟨d,E,m⟩:=py.1 (show(keep.any λd=>bI d.1 id&&HY d.2 Q)=bp from L);simp only[cC] at m;obtain⟨m,w⟩:=m;have m:=fu m;cases x with|addr k F=>
     obtain⟨r,ax,y,C,an,R⟩:=bs id _ k d E m;rcases A0.1 w with w|w
     ·have G:=R _ _ _ _ w F;rw[<-C,<-y] at G;exact .addr ax G
     obtain⟨hc,N⟩:=akp.1 w;obtain⟨_,an⟩:=an;obtain⟨ce,G⟩:=aX.upper an N F R;rw[<-C,<-y] at G;exact .addr ax G
    |view id Q gs K=>
     obtain⟨d,E,m,w⟩:=dl id Q L;cases x with|ma=>(exact .ma _ _)|view k F f4 f5 f6=>
     obtain⟨r,ax,y,C,an,R⟩:=bs id _ k d E m;have G:=R _ _ _ _ w F;rw[<-C,<-y] at G;exact .view ax G f4 f5 f6
    |_=>cases L
  intro v P x;unfold fd;cases d6:v.fm S with
  |false=>grind
  |true=>
   cases L:kj S keep v with
   |false=>simp only[me,Bool.and_self,bG];exact .dead _
   |true=>
    simp only[gT,Bool.and_false,bO];cases v with
    |eA ge f3=>
     cases x with|eA d2 J=>
     refine .eA d2 (λo T M s m=>bx T M (J o T M s m) ?_);have:=g0.1 L T (jd s);grind
    |hA T=>
     cases x with|hA b fn cv fl=>
     exact .hA (V _ _ b).1 (by rw[((V _ _ b).2.1 0).1];exact fn) cv (bx T _ fl (.inr L))
    |app id u f9 hs c1=>
     cases x with|app k d5 F ft s gf m f2 gi fT=>
     have N:((c1.all λo=>!(eR o S))&&keep.any λd=>bI d.1 id&&kV d.2 u)=bp:=L;rw[cC] at N;obtain⟨cv,N⟩:=N;have cv:∀o∈c1,o∉S:=λo K d3=>(by grind [hd,aij]);obtain⟨d,E,N⟩:=py.1 N;simp only[cC] at N;obtain⟨fp,d0⟩:=N;obtain rfl:=fu fp;obtain⟨r,ax,y,C⟩:=l.app d E _ k u f9 _ _ _ _ d0 d5 F ft s;obtain⟨hi,a3,a4,ap,_,f7⟩:=l.keep d E _ k;rw[ax] at a3;obtain rfl:=gD a3;have f0:∀o∈c1,aq new o=bo:=λo K=>by
      cases J:aq new o with
      |none=>rfl
      |some c2=>
       obtain⟨_,hr,gl⟩:=f2 o K;rcases(l.tree o c2 J).1 with u|u
       ·grind
       grind
     have d3:fh new rtn p d.1=p d.1:=(by grind [fh]);have d4:=f7 u _ _ _ (Ha d0) F;rw[<-a4,<-d3] at d4;refine .app (t:=r) (by grind [kH]) d5 d4 y (s.mono V (λa b=>(C a b).2)) (λa b=>by grind [fh]) (m.mono V (λa b=>?_)) (λo K=>?_) (λa b=>?_) fT
     ·grind
     ·simp_all [kH,mZ,aw]
     grind [fh]
    |_=>exact bx _ P x (.inr L)
 intro a b eq;rw[l.heap a (je b e.size)]
 ·exact e.frame a b eq
 intro id _ c k A;have:=((e.tree id c k).2.2 a A).2.2.2;grind
section
def ks (k:eD->X->Prop) (i:bD) (a:ai) (l:bv Addr) (d:bm a.den) (g:ev):Prop:=
 g.length=d.length/\(d=[]\/∃e h,l=Y ⟨e,h,bo⟩/\∀(c:X) (j:a.den) (f:ahb),d[c]?=Y j->g[c]?=Y f->∃b,b.length=a.size/\fq i e (h+c*a.size) b/\aS k i a b j f)
theorem ks.a6 {h:eD} {a:bm d.den} (c:aS e f (.a6 h d) [.slice s b i] a []):b=a.length/\ks e f d s a (bJ a.length []):=by obtain⟨_,j,k,g,_,_,c⟩:=c;simp only[hP,ahm,b8] at g;obtain⟨rfl,rfl,rfl⟩:=g;refine⟨bn,ac,c.imp id ?_⟩;grind
theorem ks.osl {l:bm d.den} (g:aS e f (.osl d) [.slice s i b] l k):i=l.length/\i<=b/\∃h,ks e f d s l h/\(∀j∈h.flatten,j∈k)/\(k.Nodup->h.flatten.Nodup)/\((s=bo/\b=0/\k=[])\/∃a c,s=Y ⟨a,c,bo⟩/\k=a::h.flatten/\iJ f a c (c+b*d.size)):=by
 obtain⟨t,j,m,g⟩:=g;simp only[hP,ahm,b8] at m;obtain⟨rfl,rfl,rfl⟩:=m;rcases g with⟨rfl,rfl,rfl,rfl⟩|⟨a,c,n,rfl,rfl,ax,p,q,r⟩
 ·exact⟨bn,bd _,[],⟨bn,.inl bn⟩,ac,ac,.inl ⟨bn,bn,bn⟩⟩
 refine⟨bn,p,n,⟨ax,.inr ⟨a,c,bn,r⟩⟩,λj o=>g6 _ o,λg=>(jZ.1 g).2,.inr ⟨a,c,bn,bn,q⟩⟩
theorem ks.cells {b:bm d.den} {q:ev} (j:ks e f d s b q) (v:0<d.size):∃n:ag5,n.length=b.length*d.size/\(∀i∈n,i.oneCell'=bp)/\(∀c,s=Y c->b≠[]->∀(k:X) i,n[k]?=Y i->f.cell? (c.add k)=Y i)/\∀(g:X) (o:d.den) (m:ahb),b[g]?=Y o->q[g]?=Y m->aS e f d ((n.drop (g*d.size)).take d.size) o m:=by
 obtain⟨D,j⟩:=j;rcases j with rfl|⟨c,l,rfl,j⟩
 ·simp_all
 have C:∀a,a<b.length*d.size->∃i,f.cell? ⟨c,l+a,bo⟩=Y i/\i.oneCell'=bp:=by
  intro a B;have t:a/d.size<b.length:=(ajR v).2 B;obtain⟨h,x,p,r⟩:=j (a/d.size) b[a/d.size] (q[a/d.size]'(by omega)) ac ac
  have E:=aiI a v;have:h[a %d.size]?=Y (h[a %d.size]'(by omega)):=bc _
  refine⟨_,?_,r.one _ (cO (by omega:a %d.size<h.length))⟩;have:=p _ _ this;grind [ajS,Nat.mul_comm]
 have A:∀a,((bH (b.length*d.size)).map λa=>(f.cell? ⟨c,l+a,bo⟩).getD bW)[a]?=if a<b.length*d.size then f.cell? ⟨c,l+a,bo⟩ else bo:=by grind
 refine⟨(bH (b.length*d.size)).map λa=>(f.cell? ⟨c,l+a,bo⟩).getD bW,ac,?_,?_,?_⟩
 ·grind
 ·grind [ah9]
 intro g o m w z;obtain⟨h,x,p,r⟩:=j g o m w z;have t:g<b.length:=(hJ.1 w).1;have:(((bH (b.length*d.size)).map λa=>(f.cell? ⟨c,l+a,bo⟩).getD bW).drop (g*d.size)).take d.size=h:=by
  apply hQ;intro k;rcases cS k d.size with u|u
  ·rw[tH u,pD,A];have y:(g+1)*d.size<=b.length*d.size:=iz _ t;rw[nh,mR] at y;rw[au aa];have:h[k]?=Y (h[k]'(by omega)):=bc _
   rw[this,<-aiJ];exact p _ _ this
  grind
 grind
section
variable {P:b0}
theorem SK {w:bD} {ty:bF} {j:TypeInfo} (p:P.underlying x=Y (.slice a)) (A:fi P d a) (i:P.info? a=Y j) (a4:d.size<=1300) {ad yd:bv Addr} {n cap m c:X} {olds news:ag5} (M:olds.length=n*d.size) (ap:∀b,ad=Y b->∀(f:X) (g:Value),olds[f]?=Y g->w.cell? (b.add f)=Y g) (av:∀b,ad=Y b->b.spot=bo) (J:n<=cap) (an:ad=bo->cap=0) (t:news.length=m*d.size) (H:∀g∈news,g.oneCell'=bp) (C:∀b,yd=Y b->0<m->∀(f:X) (g:Value),news[f]?=Y g->w.cell? (b.add f)=Y g) (bl:yd=bo->m=0) (L:∀b,ad=Y b->iJ w b.block b.off (b.off+cap*d.size)) (U:n+m<=hD):∃F o,(aja #[x,x] ty #[.slice ad n cap,.slice yd m c]).run P w=.ok F o/\((
   n+m<=cap/\F=.slice ad (n+m) cap/\((ad=bo/\o=w)\/∃b,ad=Y b/\o=w.setCells b.block (b.off+n*d.size) news))\/
   ∃(e:X) (v:ag3),cap<n+m/\n+m<=e/\F=.slice (Y ⟨w.heap.size,0,bo⟩) (n+m) e/\hn w o/\o.heap[w.heap.size]?=Y (.cells v a (0,0))/\o.heap.size=w.heap.size+1/\e*d.size<=v.size/\∀(f:X) (g:Value),(olds++news)[f]?=Y g->v[f]?=Y g):=by
 obtain⟨bs,_,h,_⟩:=A.info;have G:=h.info;rw[i] at G;cases G;have a3:=A.pos;by_cases D:n+m<=cap
 ·by_cases q:m=0
  ·subst q;obtain rfl:news=[]:=qx aa;have K:(alG d.size 0 (.slice yd 0 c)).run P w=.ok #[] w:=by
    cases yd with
    |none=>rfl
    |some b=>simp[alG,loadCells,loadCellsFrom]
   refine⟨.slice ad n cap,w,?_,.inl ⟨D,bn,?_⟩⟩
   ·cases ad with
    |none=>simp[aja,b7 p,ah1,ahL,i,alH,h.size,J,K]
    |some b=>simp[aja,b7 p,ah1,ahL,i,alH,h.size,J,K,storeCells]
   cases ad with
   |none=>grind
   |some b=>exact .inr ⟨b,bn,bn⟩
  cases ad with
  |none=>grind
  |some b=>
   cases yd with
   |none=>grind
   |some k=>
    obtain⟨N,O,Q⟩:=b;obtain rfl:Q=none:=av _ rfl;have V:(n+m)*d.size<=cap*d.size:=iz _ D;rw[nh] at V;have r:=run_append_room_cells (P:=P) w x ty a j p i N O n cap k m c news (by rw[h.size];exact t) (C k bn aa) H D (λf T=>(L _ rfl _ (by grind) (by rw[h.size];grind)).1) (λf T=>(L _ rfl _ (by grind) (by rw[h.size];grind)).2);rw[h.size] at r;grind
 obtain⟨l,a0,u⟩:=A.HN;have u:=u j i;have q:0<m:=aa;cases yd with
 |none=>grind
 |some k=>
  have I:(n+m)*j.bytes<=140737488355328:=(by have H:(n+m)*j.bytes<=hD*31200:=oP U (by have:=h.bytes;omega);grind [hD]);have B:((n+m:X):Z)<=9223372036854775807:=(by grind [hD]);have z:∀(E:X),let e:=grownCap w (n+m) E a
   n+m<=e/\hn w (w.drew.alloc (.cells (olds.toArray++news.toArray++ajb l.cells (e-(n+m))) a))/\
   (w.drew.alloc (.cells (olds.toArray++news.toArray++ajb l.cells (e-(n+m))) a)).heap[w.heap.size]?=Y (.cells (olds.toArray++news.toArray++ajb l.cells (e-(n+m))) a (0,0))/\
   e*d.size<=(olds.toArray++news.toArray++ajb l.cells (e-(n+m))).size/\
   ∀(f:X) (g:Value),(olds++news)[f]?=Y g->(olds.toArray++news.toArray++ajb l.cells (e-(n+m)))[f]?=Y g:=by
   intro E e;have S:n+m<=e:=grownCap_ge w (n+m) E a;refine⟨S,(hn.refl w).drew.trans (hn.alloc _ _),heap_alloc_new w.drew _,?_,?_⟩
   ·simp only[Array.size_append,tK,size_zeroCells,a0,M,t,<-nh];grind
   grind
  cases ad with
  |some b=>
   have r:=run_append_grow (P:=P) w x ty a j l p i u b n cap olds (by rw[h.size];exact M) (ap b bn) k m c news (by rw[h.size];exact t) (C k bn q) aa B (growslice_fits aa I);obtain⟨y,f2,s,f4,f5⟩:=z cap;exact⟨_,_,r,.inr ⟨_,_,aa,y,bn,f2,s,ac,f4,f5⟩⟩
  |none=>
   have R:=an bn;have am:n=0:=aa;subst R;subst am;obtain rfl:olds=[]:=qx aa;simp only[mS] at B I z;have r:=run_append_nil (P:=P) w x ty a j l p i u k m c news (by rw[h.size];exact t) (C k bn q) q B aa;obtain⟨y,f2,s,f4,f5⟩:=z 0;simp only[iL,Array.empty_append] at y f2 s f4 f5;refine⟨_,_,r,.inr ⟨_,_,aa,aa,by rw[mS],f2,s,ac,f4,f5⟩⟩
end
end
theorem xV (b:X):∀(g:ag5) (d:X) (c:bD) (a:X),a≠b->(c.setCells b d g).heap[a]?=c.heap[a]?
 |[],_,_,_,_=>rfl
 |v::f,d,c,a,e=>by rw[ajT,xV b f _ _ a e];simp only[alI,Array.getElem?_modify];grind
theorem tg (b:X):∀(e:ag5) (c:X) (a:bD),(a.setCells b c e).heap.size=a.heap.size
 |[],_,_=>rfl
 |v::d,c,a=>by rw[ajT,tg b d];simp
def ph (b:X):∀(d:ag5) (c:X) (a:bD),(a.setCells b c d).os=a.os/\(a.setCells b c d).tape=a.tape/\(a.setCells b c d).output=a.output
 |[],_,_=>⟨bn,bn,bn⟩
 |v::e,c,a=>by rw[ajT];exact ph b e _ _
theorem JE (d:X) (e:ag5) (b:X) (f:bD) (g:∀c,c<e.length->(f.cell? ⟨d,b+c,bo⟩).isSome=bp) (a:X):((f.setCells d b e).cell? ⟨d,a,bo⟩).isSome=(f.cell? ⟨d,a,bo⟩).isSome:=by
 by_cases h:b<=a/\a<b+e.length
 ·obtain⟨c,rfl⟩:∃c,a=b+c:=⟨a-b,aa⟩;grind [ajc]
 grind [ajU]
theorem W1 (b:bD) (c:Addr) (d:Value) (a:X):iX (b.setCell c d) a=iX b a:=by unfold iX alI;grind
def z6 (d:X):∀(f:ag5) (b:X) (c:bD) (a:X),iX (c.setCells d b f) a=iX c a
 |[],_,_,_=>rfl
 |v::e,b,c,a=>by rw[ajT,z6 d e (b+1),W1]
theorem rC {vs:ag5} {o:X} {w:bD} (a:i≠b):c5 w (w.setCells b o vs) i:=.of_heap (xV b vs o w i a)
theorem K8 {P:b0} {ty:bF} {el:TypeInfo} (c1:P.underlying x=Y (.slice a)) (ap:fi P d a) (d2:P.info? a=Y el) (d7:d.size<=1300) {R:bv Addr} {c:X} {q I:bm d.den} {t:ev} (U:aS e f (.osl d) [.slice s i b] q k) (V:ks e f d R I t) (bl:k.Nodup) (cs:∀h∈k,∀o,¬e o h) (gc:t.flatten.Nodup) (ds:∀h∈k,h∉t.flatten) (cv:∀o h,e o h->h<f.heap.size) (d0:∀h∈k,h<f.heap.size) (ek:∀h∈t.flatten,h<f.heap.size) (d4:q.length+I.length<=hD):∃an p f2,(aja #[x,x] ty #[.slice s i b,.slice R I.length c]).run P f=.ok an p/\aS e p (.osl d) [an] (q++I) f2/\aS e p (.osl d) [.slice s i b] q k/\f2.Nodup/\(∀h∈f2,h∈k\/h∈t.flatten\/(f.heap.size<=h/\h<p.heap.size))/\f.heap.size<=p.heap.size/\p.os=f.os/\p.tape=f.tape/\p.output=f.output/\(∀h,h<f.heap.size->h∉k->p.heap[h]?=f.heap[h]?)/\(∀o h,e o h->c5 f p h)/\(∀h∈t.flatten,c5 f p h)/\(∀h,h<f.heap.size->iX p h=iX f h):=by
 obtain⟨rfl,av,z,ce,f0,f1,d9⟩:=ks.osl U;have bs:=ap.pos;obtain⟨G,am,gl,fl,go⟩:=ce.cells bs;obtain⟨v,em,eq,ex,gf⟩:=V.cells bs;have a4:=ce.1;have f7:=V.1;obtain⟨an,p,T,dl⟩:=SK (P:=P) (w:=f) (ty:=ty) c1 ap d2 d7 (ad:=s) (yd:=R) (n:=q.length) (cap:=b) (m:=I.length) (c:=c) (olds:=G) (news:=v) am (λh K l y A=>fl h K (by grind) l y A) (λh K=>by grind) av (λM=>by grind) em eq (λh K f8 l y A=>ex h K (by grind) l y A) (λM=>by rcases V.2 with rfl|⟨h,gi,E,_⟩;rfl;grind) (λh K=>by
   grind) d4
 have fT:(z++t).flatten=z.flatten++t.flatten:=ac;have f9:(z++t).flatten.Nodup:=(by grind);have S:∀(g:X) (F:d.den) (C:ahb),(q++I)[g]?=Y F->(z++t)[g]?=Y C->aS e f d (((G++v).drop (g*d.size)).take d.size) F C/\∀h∈C,h∈z.flatten\/h∈t.flatten:=by
  intro g F C j L;rcases cS g q.length with E|E
  ·rw[qy E] at j;rw[qy aa] at L;have u:(g+1)*d.size<=q.length*d.size:=iz _ E;rw[nh,mR] at u;rw[rV aa,yq (by grind)];grind [aiC,aht]
  rw[pC E] at j;rw[pC aa,a4] at L;have u:q.length*d.size<=g*d.size:=iz _ E;rw[List.drop_append,qw aa,iL,am,show g*d.size-q.length*d.size=(g-q.length)*d.size by rw[Nat.sub_mul]];grind [aiC,aht]
 rcases dl with⟨d6,rfl,d8⟩|⟨ci,co,f4,f3,rfl,D,d1,f5,fz,ft⟩
 ·rcases d8 with⟨rfl,rfl⟩|⟨h,rfl,rfl⟩
  ·have fs:b=0:=(by grind);obtain rfl:q=[]:=qx aa;obtain rfl:I=[]:=qx aa;exact⟨_,p,k,T,by grind,U,bl,λh K=>.inl K,bd _,bn,bn,bn,λ_ _ _=>rfl,λ_ _ _=>c5.refl _ _,λ_ _=>c5.refl _ _,λ_ _=>rfl⟩
  rcases d9 with⟨M,_⟩|⟨r,B,M,rfl,a0⟩
  ·cases M
  cases M;have fp:r∉z.flatten:=(jZ.1 bl).1;have c2:r∉t.flatten:=ds r ac;have d5:(q.length+I.length)*d.size<=b*d.size:=iz _ d6;rw[nh] at d5;have bx:∀l,l<v.length->(f.cell? ⟨r,B+q.length*d.size+l,bo⟩).isSome=bp:=λl A=>(a0 _ aa aa).1;have J:∀o g,e o g->e o g/\c5 f (f.setCells r (B+q.length*d.size) v) g:=λo g j=>⟨j,rC (λO=>cs r ac o (O▸j))⟩;have a3:iJ (f.setCells r (B+q.length*d.size) v) r B (B+b*d.size):=λl u N=>(by rw[JE r v _ f bx,akB];exact a0 l u N);have fn:∀l y,(G++v)[l]?=Y y->(f.setCells r (B+q.length*d.size) v).cell? ⟨r,B+l,bo⟩=Y y:=by
   intro l y A;rcases cS l G.length with E|E
   ·grind [ah9,ajU,List.getElem?_append_left]
   rw[pC E] at A;obtain⟨H,rfl⟩:∃H,l=G.length+H:=⟨l-G.length,aa⟩;rw[rZ] at A;have Q:H<v.length:=(hJ.1 A).1;rw[am,<-aiJ,ajc r v _ f bx H Q];grind
  refine⟨_,_,r::(z++t).flatten,T,?_,?_,?_,?_,by rw[tg];omega,(ph _ _ _ _).1,(ph _ _ _ _).2.1,(ph _ _ _ _).2.2,?_,λo g j=>(J o g j).2,λg j=>rC (λO=>c2 (by grind)),λg _=>z6 _ _ _ _ _⟩
  ·refine⟨Y ⟨r,B,bo⟩,b,ac,.inr ⟨r,B,z++t,bn,bn,by grind,by grind,a3,λg F C j L=>?_⟩⟩;obtain⟨u,N⟩:=S g F C j L;refine⟨_,u.len,λl y A=>?_,u.mono J (λH Q=>rC (λO=>?_))⟩
   ·have d3:(G++v)[g*d.size+l]?=Y y:=by
     grind
    grind
   grind
  ·refine⟨Y ⟨r,B,bo⟩,b,bn,.inr ⟨r,B,z,bn,bn,a4,av,a3,λg F C j L=>?_⟩⟩;have f6:g<q.length:=(hJ.1 j).1;obtain⟨u,N⟩:=S g F C (by grind) (by grind);refine⟨_,u.len,λl y A=>?_,u.mono J (λH Q=>rC (λO=>?_))⟩
   ·have d3:(G++v)[g*d.size+l]?=Y y:=by
     grind
    grind
   grind
  ·grind
  ·grind
  grind [xV]
 have J:∀o g,e o g->e o g/\c5 f p g:=λo g j=>⟨j,.of_heap (D.heap g (cv o g j))⟩;have ge:∀l,p.cell? ⟨f.heap.size,l,bo⟩=co[l]?/\p.frozen? ⟨f.heap.size,l,bo⟩=bq:=λl=>(by simp[aio,ajM,d1]);refine⟨_,p,f.heap.size::(z++t).flatten,T,?_,U.mono J (λg j=>.of_heap (D.heap g (d0 g j))),?_,?_,D.size,D.os,D.tape,D.output,λg j _=>D.heap g j,λo g j=>(J o g j).2,λg j=>.of_heap (D.heap g (ek g j)),λg j=>(c5.of_heap (D.heap g j)).2⟩
 ·refine⟨Y ⟨f.heap.size,0,bo⟩,ci,ac,.inr ⟨f.heap.size,0,z++t,bn,bn,by grind,by grind,λl _ N=>?_,λg F C j L=>?_⟩⟩
  ·grind
  obtain⟨u,N⟩:=S g F C j L;refine⟨_,u.len,λl y A=>?_,u.mono J (λH Q=>.of_heap (D.heap H ?_))⟩
  ·grind
  grind
 ·grind
 grind
section
def e9.get:∀{p:bm aZ} {b:ai} {c j:b.den} {e:ai} {k:e.den},e9 b c p e k j->∃d,eN b c p e d
 |[],b,c,_,_,_,a=>by obtain⟨rfl,_⟩:=e9.gz.1 a;exact⟨c,eN.gz.2 ⟨bn,bn⟩⟩
 |s::p,b,_,_,_,_,a=>by
  cases b<;>cases s<;>simp only[e9] at a
  case osl.idx=>obtain⟨g,f,i,a,_⟩:=a;obtain⟨d,h⟩:=e9.get (p:=p) a;exact⟨d,g,i,h⟩
  case optr.deref=>exact e9.get (p:=p) a
  case st.unst=>exact e9.get (p:=p) a
  case pr.fst=>obtain⟨f,a,_⟩:=a;exact e9.get (p:=p) a
  case pr.snd=>obtain⟨f,a,_⟩:=a;exact e9.get (p:=p) a
theorem e9.same:∀{p:bm aZ} {c:ai} {b:c.den} {d:ai} {f:d.den},eN c b p d f->e9 c b p d f b
 |[],c,b,_,_,a=>by grind [e9.gz,eN.gz]
 |s::p,c,b,_,_,a=>by
  cases c<;>cases s<;>simp only[eN] at a
  case osl.idx i=>
   obtain⟨e,g,a⟩:=a;refine⟨e,e,g,e9.same (p:=p) a,?_⟩;grind [List.set_getElem_self,ahT]
  case optr.deref=>exact e9.same (p:=p) a
  case st.unst=>exact e9.same (p:=p) a
  case pr.fst=>exact⟨b.1,e9.same (p:=p) a,bn⟩
  case pr.snd=>exact⟨b.2,e9.same (p:=p) a,bn⟩
def D4 {a:N} {c:X->N}:fh [(b,P)] (λ_=>a) c b=a:=by simp[fh,dg]
section
variable {E:fy} {C:eZ} {st:aM} {a:Act} {A:ag3} {w:bD} {I:X->Prop} {rt:X->ag5} {fp:X->ahb} {o:bQ}
theorem acs {c:X} (j:g.length=c) (f:iJ w i b (b+c)) (d:X):rP w (w.setCells i b g) (Y (i,b)) c d:=by
 have k:∀a,a<g.length->(w.cell? ⟨i,b+a,bo⟩).isSome=bp:=λa h=>(f _ aa aa).1;refine⟨λa h=>ajU i g b w _ (λe _=>?_),λa=>akB _ _ _ _ _,λa=>?_,z6 _ _ _ _ _⟩
 ·grind
 by_cases e:d=i
 ·grind [JE]
 rw[((rC (w:=w) (o:=b) (vs:=g) e).1 a).1]
theorem cM.acX (q:cM C st A w I rt fp) {id:X} (r:aq st.h id=Y P) {F:ag5} (N:aX w P.1 bo (rt id) n d (Y (b,i)) F) {x:d.den} {s:P.1.den} (D:e9 P.1 P.2 n d x s) {p:ahb} (E:aS (bf I C.B) w d y x p) (ft:p.Nodup) (a3:id∉k) (ex:∀a∈p,(∃G,∃U:d.den,d.kK=bp/\aS (bf I C.B) w d F U G/\a∈G)\/∃c∈k,∃f,aq st.h c=Y f/\a∈fp c):iJ w b i (i+d.size)/\∃rtn fpn,cM C ⟨kill (id::k) [(id,n)] st.g,(id,⟨P.1,s⟩)::del (id::k) st.h⟩ A (w.setCells b i y) I rtn fpn/\rtn id=rt id/\aX (w.setCells b i y) P.1 bo (rt id) n d (Y (b,i)) y:=by
 obtain⟨cs,R,el⟩:=q.tree id P r;obtain⟨U,ci⟩:=D.get;obtain⟨f3,d6,ad,T,am,d8,an,J,d9,ap,av⟩:=zN n (loc:=bo) cs (λ_ _ j=>by cases j) R (λ_ _ j=>by cases j) (q.notM r) ci;obtain⟨_,ao,V⟩:=N.lu am;subst ao;subst V;obtain⟨_,z⟩:=an b i bn;have em:b∈T:=(by grind);have bl:b∈fp id:=J.mem_iff.2 (by grind);have Q:=J.nodup_iff.1 R;rw[jY] at Q;obtain⟨fn,O,fs⟩:=Q;have eq:∀a∈p,a∈ad\/∃c∈k,∃f,aq st.h c=Y f/\a∈fp c:=λa e=>(by grind [aS.uniq]);have fz:∀c∈k,∀f,aq st.h c=Y f->∀a∈fp c,a∉fp id:=λc m f l a e K=>q.dis c id f P l r (λo=>a3 (o▸m)) a e K;have ce:∀a∈p,a∉T:=λa e K=>(by grind);have a0:∀v a,bf I C.B v a->a≠b:=λv a e o=>q.notM r b bl v (o▸e);have bs:=acs (w:=w) E.len z;have c1:aS (bf I C.B) (w.setCells b i y) d y x p:=E.mono (λv a e=>⟨e,rC (a0 v a e)⟩) (λa e=>rC (λo=>ce a e (by grind)));have fT:∀u,u<y.length->(w.cell? ⟨b,i+u,bo⟩).isSome=bp:=λu t=>(z _ aa (by have:=E.len;omega)).1;have ek:fq (w.setCells b i y) b i y:=λu d3 t=>(by grind [bR,ajc,ahT]);obtain⟨d7,H,c2,_,ds,_,f0,d0,dl⟩:=ap (w.setCells b i y) (bf I C.B) y x p s (λ_ _ j=>j) (λa _=>bs a) c1 (λj=>by cases j) (λd4 f4 o=>by grind) D;obtain rfl:=ds bn (.inl ac);have bx:∀a∈H,a∈fp id\/∃c∈k,∃f,aq st.h c=Y f/\a∈fp c:=λa e=>(by grind);have a4:=q.eC (S:=id::k) (keep:=[(id,n)]) (new:=[(id,⟨P.1,s⟩)]) (rtn:=λ_=>rt id) (fpn:=λ_=>H) (w':=w.setCells b i y) (I':=I) ⟨?_,(ph _ _ _ _).1,(ph _ _ _ _).2.1,(ph _ _ _ _).2.2,?_,λa _=>.of_eq (z6 _ _ _ _ _),λ_ j=>j,λ_ j=>.inl j,?_,?_,?_,?_⟩
 ·exact⟨z,_,_,a4,by rw[D4],d0⟩
 ·grind [tg]
 ·grind [xV]
 ·intro c f l;rw[dg] at l;split at l
  ·rename_i o;subst o;cases l;refine⟨.inl ac,c2,?_,λa e=>?_⟩
   ·grind
   rcases bx a e with j|⟨c,m,f,l,j⟩
   ·grind [tg]
   obtain⟨ax,d2,f5,f6⟩:=(q.tree c f l).2.2 a j;grind [tg]
  cases l
 ·intro c u f d3 m t fl;rw[dg] at m t;split at m
  ·split at t
   ·omega
   cases t
  cases m
 ·intro c m f l;simp only[gj] at m;subst m;rw[r] at l;obtain rfl:=gD l;refine⟨⟨P.1,s⟩,?_,bn,bn,⟨_,N.ty⟩,dl⟩;rw[dg,au bn]
 intro c m f l d1 f8 f7 f1 d5 f2 L co O M cv;simp only[gj] at m;subst m;rw[r] at l;obtain rfl:=gD l;refine⟨⟨P.1,s⟩,by rw[dg,au bn],uC L D M,λa e=>?_⟩;obtain⟨ax,d2⟩:=av d1 _ _ _ _ _ L (by exact co) M O cv a e;grind [ajV,rC]
theorem cM.store (p:cM C st A w I rt fp) {id:X} (v:aq st.h id=Y P) {b:X} {c:ag5} (s:aX w P.1 bo (rt id) n d (Y (b,i)) c) {o:d.den} {m:P.1.den} (u:e9 P.1 P.2 n d o m) {S2:ahb} (x:aS (bf I C.B) w d y o k) (t:k.Nodup) (q:id∉S2) (r:∀a∈k,(∃e,∃D:d.den,d.kK=bp/\aS (bf I C.B) w d c D e/\a∈e)\/∃j∈S2,∃z,aq st.h j=Y z/\a∈fp j):iJ w b i (i+d.size)/\∃l f,cM C ⟨kill (id::S2) [(id,n)] st.g,(id,⟨P.1,m⟩)::del (id::S2) st.h⟩ A (w.setCells b i y) I l f:=by obtain⟨E,l,f,F,_⟩:=p.acX v s u x t q r;grind
inductive vV where
 |e4 (s:aM)
 |part (α:Type) (φ:α->Prop) (f:α->aM)
 |bad
def vV.K (c:vV) (Q:aM->Prop):Prop:=
 match c with
 |.e4 d=>Q d
 |.part e f b=>∃a:e,f a/\Q (b a)
 |.bad=>b5
def e0 (E:fy) (C:eZ) (o:bQ) (st:aM) (Q:aM->Prop):Prop:=
 ∀(a:Act) (w:bD),gN C st a.tmps w->∀(next:Act->bD->Prop) (e:b4->Act->bD->Prop),(∀c b d,Q c->b.defers=a.defers->gN C c b.tmps d->next b d)->o.wp E.P a w next e
variable {Q:aM->Prop}
def e0.eval {an:bm (X×ai)} (j:o.dst=Y b) (l:C.ok b) (i:(g3 E.tt an st.h (aU st.g) b o.op).K (λc e=>Q ⟨(b,c)::st.g,e++st.h⟩)):e0 E C o st Q:=by
 rintro a w ⟨I,rt,fp,d⟩ next r m
 exact(UC d i).wp d j l (λc e f q n k p=>m _ f q n k p)
def ry (b:bm (X×aD)) (c:aj):bv (X×bm aZ):=
 match c with
 |.addr id a=>Y (id,a)
 |.ref id a=>match aq b id with
  |some ⟨d,_⟩=>match fk d a with
   |some (.optr _)=>Y (id,a++[.deref])
   |_=>bo
  |none=>bo
 |_=>bo
def EX (
 tt:bm (bF×ai)) (st:aM) (m:bF) (o v:aj):vV:=
 match ry st.h o with
 |none=>.bad
 |some (
  id,p)=>match aq st.h id,aq tt m with
  |some ⟨b,e⟩,Y n=>match fk b p with
   |none=>.bad
   |some c=>bif a9 n c then match v with
    |.ref d i=>match aq st.h d with
     |some ⟨r,j⟩=>bif bI id d then .bad else
      .part (c.den×b.den) (λa=>eN r j i c a.1/\e9 b e p c a.1 a.2) (λa=>⟨kill [id,d] [(id,p)] st.g,(id,⟨b,a.2⟩)::del [id,d] st.h⟩)
     |none=>.bad
    |.app d i f q l=>if _e:c=.osl f then
     .part (bm f.den×b.den) (λa=>d=id/\i=p/\eN b e p (.osl f) a.1/\e9 b e p (.osl f) (a.1++q) a.2) (λa=>⟨kill (id::l) [(id,p)] st.g,(id,⟨b,a.2⟩)::del (id::l) st.h⟩) else .bad
    |v=>match coe c v with
     |some j=>.part b.den (λk=>e9 b e p c j k) (λk=>⟨kill [id] [(id,p)] st.g,(id,⟨b,k⟩)::del [id] st.h⟩)
     |none=>.bad
   else .bad
  |_,_=>.bad
theorem aaY (m:cM C st a.tmps w I rt fp) {id:X} (b:ry st.h (aU st.g c)=Y (id,n)) (k:aq st.h id=Y P) (v:fk P.1 n=Y d):∃j q r,a.eval c=.pointer (Y ⟨j,q,bo⟩)/\aX w P.1 bo (rt id) n d (Y (j,q)) r:=by
 have i:=m.aU c;unfold ry at b;generalize B:a.eval c=E at i;split at b
 ·rename_i y A l;cases b;rw[l] at i;cases i with|addr f e=>
  rw[k] at f;cases f;have:=e.ty;grind
 ·rename_i y A l;split at b
  case h_2=>cases b
  rename_i G F p;split at b
  case h_2=>cases b
  rename_i D x;cases b;rw[k] at p;cases p;rw[l] at i;cases i with|ref f e=>
  rw[k] at f;cases f;have:=e.ty;rw[x] at this;cases this;obtain⟨j,z,u,rfl,s,t⟩:=pd (m.tree id _ k).1 e;have o:=e.append (aX.G5 s t);have:=o.ty;rw[v] at this;cases this;exact⟨j,z,u,bn,o⟩
 grind
theorem acW (k:aq E.tt x=Y d) (m:a9 d r=bp) (t:o.op=.store x h c) (u:a.eval h=.pointer (Y ⟨i,b,bo⟩)) (q:(a.eval c).cells=g.toArray) (s:g.length=r.size) (j:∀c∈g,c.oneCell'=bp) (f:iJ w i b (b+r.size)):(bL a.eval o).run E.P w=.ok .skip (w.setCells i b g):=by have p:=(E.ok x d k).lay m;have n:=run_storeCells_cells (P:=E.P) i b g 0 w (λe l=>by simpa using(f (b+e) aa aa).1) (λe l=>by simpa using(f (b+e) aa aa).2) j;simp only[mQ] at n;have:(storeVar x ⟨i,b,bo⟩ (a.eval c)).run E.P w=.ok () (w.setCells i b g):=(by simp only[storeVar,q,bY,p.sizeOf,b1];grind);simp_all [bL,Instr.storeAt,aiE]
theorem acV (c2:o.op=.store x h c) (bl:o.dst=bo) (b:(EX E.tt st x (aU st.g h) (aU st.g c)).K Q):e0 E C o st Q:=by
 rintro a w ⟨I,rt,fp,f⟩ next ap c1
 have i:=f.aU c;unfold EX at b;split at b
 ·exact b.elim
 rename_i id fs ds;split at b
 case h_2=>exact b.elim
 rename_i f4 f3 am q S;split at b
 ·exact b.elim
 rename_i u d2;cases v:a9 am u with
 |false=>rw[v] at b;exact b.elim
 |true=>
 rw[v] at b;simp only[bG] at b;obtain⟨O,L,d9,d3,z⟩:=aaY f ds q d2;have G:=(E.ok x am S).lay v;have F:∀(k:ag5) (M:aM) (e:X->ag5) (d:X->ahb),(a.eval c).cells=k.toArray->k.length=u.size->(∀c∈k,c.oneCell'=bp)->iJ w O L (L+u.size)->cM C M a.tmps (w.setCells O L k) I e d->Q M->o.wp E.P a w next ap:=by
  intro k M e d ao B a0 a3 d1 d0;unfold ahp;rw[acW S v c2 d3 ao B a0 a3];show next (a.put o.dst bW) _
  rw[bl];exact c1 _ _ _ d0 bn ⟨I,e,d,d1⟩
 split at b
 ·rename_i j V D;split at b
  case h_2=>exact b.elim
  rename_i f5 f0 A;cases T:bI id j with
  |true=>rw[T] at b;exact b.elim
  |false=>
   rw[T] at b;obtain⟨⟨N,an⟩,⟨ce,p⟩,b⟩:=b;have ex:id≠j:=λR=>(by simp_all);rw[D] at i;generalize J:a.eval c=d7 at i;cases i with|ref r H=>
   rw[A] at r;cases r;obtain⟨t,ad,ft⟩:=f.tree j _ A;obtain⟨fn,ek,f2,fz,d5,s,_,U,_⟩:=Dy V (τ':=u) (y:=N) t (loc:=bo) (λ_ _ b=>by cases b) ad (λ_ _ b=>by cases b) (f.notM A) ce;obtain⟨rfl,rfl,rfl⟩:=H.lu d5;have cv:f2.Nodup:=(jY.1 (U.nodup_iff.1 ad)).1;obtain⟨n,e,d,m⟩:=f.store q z p s cv (S2:=[j]) (by grind) (λav a4=>.inr ⟨j,ac,_,A,U.mem_iff.2 (by grind)⟩);exact F _ _ e d (by rw[J];exact ow G s.len s.one) s.len s.one n m b
 ·rename_i j V d8 f1 d6 D;split at b
  case isFalse=>exact b.elim
  rename_i R;subst R;obtain⟨⟨fT,an⟩,⟨rfl,rfl,bs,p⟩,b⟩:=b;rw[D] at i;generalize J:a.eval c=d7 at i;cases i with|app r co H bx el em l dl fl cs=>
  rw[q] at r;cases r;obtain rfl:=eN.uniq bs bx;obtain⟨_,ao,B⟩:=z.lu H;subst ao;subst B;have eq:(ai.osl d8).kK=bp:=co;obtain⟨n,e,d,m⟩:=f.store q z p l cs (S2:=d6) (λci=>(dl _ ci).1 bn) (λav a4=>by
   grind)
  exact F _ _ e d (by rw[J];have:=ow G l.len l.one;exact this) l.len l.one n m b
 split at b
 case h_2=>exact b.elim
 rename_i N d4;obtain⟨an,p,b⟩:=b;have t:=Gd G i d4;obtain⟨n,e,d,m⟩:=f.store q z p t ac (S2:=[]) ac ac;exact F _ _ e d ac t.len t.one n m b
end
end
section
theorem Dx (a:bm (bm N)) (c b:X):((a.take b).drop c).flatten.Sublist a.flatten:=by have d:a.flatten=((a.take b).take c).flatten++((a.take b).drop c).flatten++(a.drop b).flatten:=(by grind [List.flatten_append,aiK]);grind
section
variable {E:fy} {C:eZ} {st:aM} {a:Act} {A:ag3} {w:bD} {I:X->Prop} {rt:X->ag5} {fp:X->ahb} {o:bQ} {Q:aM->Prop}
def Bt (c:bm (X×ai)) (st:aM) (a:X) (i:aj):vV:=
 match i with
 |.ref id []=>match aq st.h id with
  |some b=>.e4 ⟨(a,.ref a [])::kill [id,a] [] st.g,(a,b)::del [id,a] st.h⟩
  |none=>.bad
 |.ref id f=>bif bI id a then .bad else .e4 ⟨(a,.ref id f)::kill [a] [] st.g,del [a] st.h⟩
 |.view id [] e d=>match aq st.h id with
  |some ⟨.osl b,j⟩=>.e4 ⟨(a,.ref a [])::kill [id,a] [] st.g,(a,⟨.osl b,(j.take d).drop e⟩)::del [id,a] st.h⟩
  |_=>.bad
 |.df (.slice bo 0 0)=>match aq c a with
  |some (.osl b)=>.e4 ⟨(a,.ref a [])::kill [a] [] st.g,(a,⟨.osl b,[]⟩)::del [a] st.h⟩
  |_=>.bad
 |_=>.bad
theorem nk.one {w':bD} {I':X->Prop} {S:ahb} {d:X} {t:aD} {cs:ag5} {f:ahb} (x:d∈S\/aq st.h d=bo) (j:w.heap.size<=w'.heap.size) (k:w'.os=w.os) (l:w'.tape=w.tape) (m:w'.output=w.output) (n:∀a,a<w.heap.size->(∀id∈S,∀t,aq st.h id=Y t->a∉fp id)->w'.heap[a]?=w.heap[a]?) (q:∀a,a<w.heap.size->iX w' a=iX w a) (o:∀a,I a->I' a) (p:∀a,I' a->I a\/(a<w'.heap.size/\(w.heap.size<=a\/∃id∈S,∃t,aq st.h id=Y t/\a∈fp id))) (A:aS (bf I' C.B) w' t.1 cs t.2 f) (y:f.Nodup) (g:∀a∈f,¬I' a/\a<w'.heap.size/\(w.heap.size<=a\/∃i∈S,∃u,aq st.h i=Y u/\a∈fp i)):nk C st w w' I I' rt fp S [] [(d,t)] (λ_=>cs) (λ_=>f):=by
 refine⟨j,k,l,m,n,λa g=>.of_eq (q a g),o,p,?_,?_,(λid r=>by grind),(λid r=>by grind)⟩
 ·intro s v e;rw[dg] at e;split at e
  ·grind
  cases e
 intro s D v E b c z;rw[dg] at b c;split at b
 ·split at c
  ·omega
  cases c
 cases b
theorem e0.SP (d6:o.op=.assign c) (d2:o.dst=Y b) (ad:C.ok b) (e:(Bt l st b (aU st.g c)).K Q):e0 E C o st Q:=by
 rintro a w ⟨I,rt,fp,s⟩ next U d5
 have n:=s.aU c;have an:(bL a.eval o).run E.P w=.ok (.value (a.eval c)) w:=(by simp[bL,d6]);have H:∀(T:aM) (rtn:X->ag5) (fpn:X->ahb),cM C T (a.tmps.setIfInBounds b (a.eval c)) w I rtn fpn->Q T->o.wp E.P a w next U:=by
  intro T rtn fpn x M;unfold ahp;rw[an];show next (a.put o.dst (a.eval c)) w
  rw[d2];exact d5 _ _ _ M bn ⟨I,rtn,fpn,x⟩
 have z:∀(S:ahb) (i:aD) (A:ag5) (p:ahb),b∈S->aS (bf I C.B) w i.1 A i.2 p->p.Nodup->(∀k∈p,∃a3∈S,∃el,aq st.h a3=Y el/\k∈fp a3)->a.eval c=cW i.1 A->Q ⟨(b,.ref b [])::kill S [] st.g,(b,i)::del S st.h⟩->o.wp E.P a w next U:=by
  intro S i A p d3 x D u d7 M;have v:=s.eC (nk.one (st:=st) (C:=C) (rt:=rt) (w':=w) (I':=I) (S:=S) (d:=b) (t:=i) (cs:=A) (f:=p) (.inl d3) (bd _) rfl rfl rfl (λ_ _ _=>rfl) (λ_ _=>rfl) (λ_ e=>e) (λ_ e=>.inl e) x D (λk ds=>by
   obtain⟨F,q,em,v,d0⟩:=u k ds;obtain⟨ax,d9,a4,bl⟩:=(s.tree F em v).2.2 k d0;grind))
  refine H _ _ _ (v.put ad (av:=.ref b []) ?_) M;rw[d7];refine .ref (t:=i) (loc:=bo) (by rw[kH,dg,au bn];rfl) ?_;rw[D4];exact aX.here
 unfold Bt at e;split at e
 ·rename_i id m;split at e
  case h_2=>exact e.elim
  rename_i i y;rw[m] at n;obtain⟨R,bs,ek⟩:=s.tree id i y;refine z [id,b] i (rt id) (fp id) ac R bs (λk u=>⟨id,ac,i,y,u⟩) ?_ e;generalize ap:a.eval c=bx at n;cases n with|ref N am=>
  grind [aX.gz]
 ·rename_i id O _ m;cases u:bI id b with
  |true=>rw[u] at e;exact e.elim
  |false=>
   rw[u] at e;have f4:id≠b:=λfz=>(by simp_all);have v:=s.eC (S:=[b]) (keep:=[]) (new:=[]) (rtn:=rt) (fpn:=fp) (w':=w) (I':=I) ⟨bd _,bn,bn,bn,λ_ _ _=>rfl,λ_ _=>.refl _ _,λ_ e=>e,λ_ e=>.inl e,(λ_ _ e=>by cases e),(λ_ _ _ _ e=>by cases e),(λ_ e=>by cases e),(λ_ e=>by cases e)⟩;refine H _ _ _ (v.put ad (av:=.ref id O) ?_) e;have:=v.aU (a:=a) c;have fT:aU (kill [b] [] st.g) c=.ref id O:=by
    cases c with
    |tmp i=>
     show gt (kill [b] [] st.g) i=_;rw[p6,show gt st.g i=.ref id O from m];grind [hd,fH,fd,aj.fm,aj.ids,eR,absurd]
    |const eq=>exact absurd m (by cases eq<;>simp[aU])
    |global f0=>cases m
    |func p=>cases m
   grind
 ·rename_i id j q m;split at e
  case h_2=>exact e.elim
  rename_i i ce y;rw[m] at n;obtain⟨R,bs,ek⟩:=s.tree id _ y;generalize ap:a.eval c=bx at n z H an;cases n with|ma=>(exact z [id,b] ⟨.osl i,[]⟩ [.slice bo 0 0] [] ac ⟨bo,0,bn,.inl ⟨bn,bn,bn,bn⟩⟩ ac ac bn e)|view N am f5 f6 f7=>
  rename_i k G f8 r;rw[y] at N;cases N;obtain⟨ao,_,c1⟩:=aX.gz.1 am;cases ao;obtain⟨fl,fs,L,x⟩:=R;rw[c1] at L;simp only[hP,ahm,b8] at L;obtain⟨rfl,rfl,rfl⟩:=L;rcases x with⟨J,_⟩|⟨fn,f9,V,J,f2,ax,d9,a4,bl⟩
  ·cases J
  cases J;have d4:((ce.take q).drop j).length=q-j:=(by grind);refine z [id,b] ⟨.osl i,(ce.take q).drop j⟩ [.slice (Y ⟨k,if r=j then G else G+j*i.size,bo⟩) (q-j) (r-j)] (k::((V.take q).drop j).flatten) ac ?_ ?_ ?_ bn e
  ·refine⟨Y ⟨k,if r=j then G else G+j*i.size,bo⟩,r-j,by rw[d4],.inr ⟨k,_,(V.take q).drop j,bn,bn,by grind,by grind,?_,?_⟩⟩
   ·intro d8 c2 dl;by_cases d1:r=j
    ·grind
    rw[aw d1] at c2 dl;have:j*i.size+(r-j)*i.size=r*i.size:=(by rw[<-nh];grind);exact a4 d8 aa aa
   intro F ex p a0 D;have f3:F<q-j:=(by grind);rw[pD,tH aa] at a0 D;obtain⟨cv,ci,ft,co⟩:=bl (j+F) ex p a0 D;refine⟨cv,ci,?_,co⟩;grind
  ·grind [List.nodup_cons,Dx]
  grind [Dx,ajD]
 ·rename_i m;split at e
  case h_2=>exact e.elim
  rename_i i f1;rw[m] at n;refine z [b] ⟨.osl i,[]⟩ [.slice bo 0 0] [] ac ⟨bo,0,bn,.inl ⟨bn,bn,bn,bn⟩⟩ ac ac ?_ e;generalize ap:a.eval c=bx at n;cases n;rfl
 exact e.elim
end
end
section
inductive lV (σ:ai) where
 |e4 (ys:bm σ.den)
 |part (α:Type) (φ:α->Prop) (f:α->bm σ.den)
 |bad
def rM (g:bm (X×aD)) (b:ai) (k:aj):lV b:=
 match k with
 |.val (.a6 _ j) a=>if e:j=b then .e4 (e▸a) else .bad
 |.df (.slice bo 0 0)=>.e4 []
 |.ref id c=>match aq g id with
  |some ⟨f,d⟩=>bif b.pure then .part (bm b.den) (λa=>eN f d c (.osl b) a) (λa=>a) else .bad
  |none=>.bad
 |.view id c i h=>match aq g id with
  |some ⟨f,d⟩=>bif b.pure then .part (bm b.den) (λa=>eN f d c (.osl b) a) (λa=>(a.take h).drop i) else .bad
  |none=>.bad
 |_=>.bad
def lV.to {f:ai} (g:lV f) (c:X->Prop) (b:bm f.den->aM):vV:=
 match g with
 |.e4 e=>.part bt (λ_=>c e.length) (λ_=>b e)
 |.part h i d=>.part h (λa=>i a/\c (d a).length) (λa=>b (d a))
 |.bad=>.bad
def Br (
 tt:bm (bF×ai)) (t:bm (X×ai)) (st:aM) (a:X) (s:bF) (j k:aj):vV:=
 match gY tt s with
 |none=>.bad
 |some o=>match j with
  |.ref id []=>match aq st.h id with
   |some ⟨.osl b,d⟩=>bif a9 o b&&b2 b.size 1300 then
    match b.pure,k with
    |false,.ref n []=>match aq st.h n with
     |some ⟨.osl v,c⟩=>if e:v=b then bif bI id n then .bad else .part bt (λ_=>d.length+c.length<=hD) (λ_=>⟨(a,.ref a [])::kill [id,n,a] [] st.g,(a,⟨.osl b,d++(e▸c)⟩)::del [id,n,a] st.h⟩) else .bad
     |_=>.bad
    |_,k=>(rM st.h b k).to (λl=>d.length+l<=hD) (λc=>⟨(a,.ref a [])::kill [id,a] [] st.g,(a,⟨.osl b,d++c⟩)::del [id,a] st.h⟩)
    else .bad
   |_=>.bad
  |.ref id f=>match aq st.h id,aq st.h a with
   |some ⟨m,j⟩,bo=>match fk m f with
    |some (.osl b)=>bif a9 o b&&b2 b.size 1300&&b.kK then
     match rM st.h b k with
     |.e4 c=>.part (bm b.den) (λd=>eN m j f (.osl b) d/\d.length+c.length<=hD) (λ_=>⟨(a,.app id f b c [a])::kill [id] [(id,f),(id,[])] st.g,(a,⟨.eK,()⟩)::(id,⟨m,j⟩)::del [id] st.h⟩)
     |.part u w p=>.part (bm b.den×u) (λi=>eN m j f (.osl b) i.1/\w i.2/\i.1.length+(p i.2).length<=hD) (λi=>⟨(a,.app id f b (p i.2) [a])::kill [id] [(id,f),(id,[])] st.g,(a,⟨.eK,()⟩)::(id,⟨m,j⟩)::del [id] st.h⟩)
     |.bad=>.bad
     else .bad
    |_=>.bad
   |_,_=>.bad
  |.view id [] r q=>match aq st.h id with
   |some ⟨.osl b,d⟩=>bif a9 o b&&b2 b.size 1300 then
    (rM st.h b k).to (λl=>((d.take q).drop r).length+l<=hD) (λc=>⟨(a,.ref a [])::kill [id,a] [] st.g,(a,⟨.osl b,(d.take q).drop r++c⟩)::del [id,a] st.h⟩)
    else .bad
   |_=>.bad
  |.df (.slice bo 0 0)=>match aq t a with
   |some (.osl b)=>bif a9 o b&&b2 b.size 1300 then
    (rM st.h b k).to (λl=>l<=hD) (λc=>⟨(a,.ref a [])::kill [a] [] st.g,(a,⟨.osl b,c⟩)::del [a] st.h⟩)
    else .bad
   |_=>.bad
  |_=>.bad
section
variable {E:fy} {C:eZ} {st:aM} {a:Act} {A:ag3} {w:bD} {I:X->Prop} {rt:X->ag5} {fp:X->ahb} {o:bQ} {Q:aM->Prop}
def yx (I:X->Prop) (e:X->Prop) (w:bD) (d:ai) (g:Value) (c:bm d.den):Prop:=
 ∃b f a,g=.slice b c.length f/\ks (bf I e) w d b c a/\a.flatten=[]
def Hv {b:ev} (c:∀a∈b,a=[]):b.flatten=[]:=by
 induction b with
 |nil=>rfl
 |cons f g e=>rw[lQ,c f ac,e (λa d=>c a (g6 _ d))];rfl
theorem ks.pure {f:eD->X->Prop} {e:ai} {g:bv Addr} {d:bm e.den} {c:ev} (i:e.pure=bp) (a:ks f w e g d c):c.flatten=[]:=by
 refine Hv (λm h=>?_);obtain⟨q,a⟩:=a;obtain⟨b,n,rfl⟩:=ho.1 h;rcases a with rfl|⟨k,o,_,a⟩
 ·grind
 have p:b<d.length:=aa;obtain⟨l,_,_,j⟩:=a b d[b] c[b] ac ac;exact j.pure i
def lV.holds {c:ai} (e:lV c) (b:bm c.den):Prop:=
 match e with
 |.e4 f=>b=f
 |.part g h d=>∃a:g,h a/\b=d a
 |.bad=>b5
def lV.E4 {f:lV d} {g:bm d.den->aM} (b:(f.to j g).K Q):∃a,f.holds a/\j a.length/\Q (g a):=by
 unfold lV.to at b;cases f with
 |e4 a=>obtain⟨_,c,e⟩:=b;exact⟨a,bn,c,e⟩
 |part l m k=>obtain⟨h,⟨c,e⟩,i⟩:=b;exact⟨k h,⟨h,c,bn⟩,e,i⟩
 |bad=>exact b.elim
theorem vz (x:cM C st a.tmps w I rt fp) {s:bm d.den} (b:(rM st.h d (aU st.g c)).holds s):yx I C.B w d (a.eval c) s:=by
 have f:=x.aU c;unfold rM at b;generalize V:a.eval c=bl at f;split at b
 ·rename_i av a4 q j;split at b
  case isFalse=>exact b.elim
  rename_i n;subst n;obtain rfl:s=q:=b;rw[j] at f;cases f with|val E=>
  have N:=E;obtain⟨_,t,m,rfl,_⟩:=N;obtain⟨_,e⟩:=ks.a6 E;exact⟨t,m,_,bn,e,ac⟩
 ·rename_i j;obtain rfl:s=[]:=b;rw[j] at f;cases f;exact⟨bo,0,[],bn,⟨bn,.inl bn⟩,bn⟩
 ·rename_i id M j;split at b
  case h_2=>exact b.elim
  rename_i P O o;cases k:d.pure with
  |false=>rw[k] at b;exact b.elim
  |true=>
   rw[k] at b;obtain⟨q,y,rfl⟩:=b;rw[j] at f;cases f with|ref p z=>
   rw[o] at p;cases p;obtain⟨rfl,u,r,_⟩:=x.kY o y z;have L:=r;obtain⟨t,m,rfl,_⟩:=L;obtain⟨_,_,v,e,_⟩:=ks.osl r;exact⟨t,m,v,bn,e,e.pure k⟩
 ·rename_i id M i l j;split at b
  case h_2=>exact b.elim
  rename_i P O o;cases k:d.pure with
  |false=>rw[k] at b;exact b.elim
  |true=>
   rw[k] at b;obtain⟨q,y,rfl⟩:=b;rw[j] at f;cases f with|ma=>(exact⟨bo,0,[],bn,⟨bn,.inl bn⟩,bn⟩)|view p z ad am an=>
   rename_i F a3 ap m;rw[o] at p;cases p;obtain⟨n,u,r,_⟩:=x.kY o y z;cases n;obtain⟨ao,_,v,e,_⟩:=ks.osl r;have K:((q.take l).drop i).length=l-i:=(by grind);show yx I C.B w d _ ((q.take l).drop i);refine⟨_,m-i,(v.take l).drop i,by rw[K],⟨by simp[e.1],?_⟩,?_⟩
   ·obtain⟨T,e⟩:=e;by_cases U:l=i
    ·grind
    right;rcases e with rfl|⟨Q,a0,n,e⟩
    ·grind
    cases n;refine⟨F,_,bn,λD c u f A=>?_⟩;have S:D<l-i:=(by grind);rw[pD,tH aa] at f A;obtain⟨J,G,R,H⟩:=e (i+D) c u f A;refine⟨J,G,?_,H⟩;grind
   have:=e.pure k;grind [Dx]
 exact b.elim
theorem adX {c f l a:X} {m:bm d.den} (p:aS e w (.osl d) [.slice (Y ⟨c,f,bo⟩) l i] m k) (B:k.Nodup) (D:b<=a) (E:a<=l) (F:l<=i):∃h,aS e w (.osl d) [.slice (Y ⟨c,if i=b then f else f+b*d.size,bo⟩) (a-b) (i-b)] ((m.take a).drop b) h/\h.Nodup/\∀o∈h,o∈k:=by
 obtain⟨y,A,n,u⟩:=p;simp only[hP,ahm,b8] at n;obtain⟨rfl,rfl,rfl⟩:=n;rcases u with⟨j,_⟩|⟨z,G,g,j,rfl,ax,H,x,I⟩
 ·cases j
 cases j;have t:((m.take a).drop b).length=a-b:=(by grind);have C:((g.take a).drop b).flatten.Sublist g.flatten:=Dx _ _ _;refine⟨c::((g.take a).drop b).flatten,⟨Y ⟨c,if i=b then f else f+b*d.size,bo⟩,i-b,by rw[t],.inr ⟨c,_,(g.take a).drop b,bn,bn,by grind,aa,?_,?_⟩⟩,?_,?_⟩
 ·intro v q r;by_cases s:i=b
  ·grind
  rw[aw s] at q r;have:b*d.size+(i-b)*d.size=i*d.size:=(by rw[<-nh];grind);exact x v aa aa
 ·grind
 ·grind
 grind
def K7 (b:o.op=.call {callee:=.builtin .append,args:=#[c,h],argTypes:=#[x,x]}) (d:(aja #[x,x] o.type #[a.eval c,a.eval h]).run E.P w=.ok R f):(bL a.eval o).run E.P w=.ok (.value R) f:=by simp only[bL,b,ahU,invoke,aib,bY,cy,b1,ajQ,h7,aiq,d]
theorem e0.yB {K L:bM} (c1:o.op=.call {callee:=.builtin .append,args:=#[K,L],argTypes:=#[x,x]}) (ap:o.dst=Y b) (a4:C.ok b) (p:cM C st a.tmps w I rt fp) {next:Act->bD->Prop} {N:b4->Act->bD->Prop} (cv:∀H z m,Q H->z.defers=a.defers->gN C H z.tmps m->next z m) {J:ai} (ad:gY E.tt x=Y J) (ce:a9 J r=bp) (d0:r.size<=1300) {S:ahb} (a0:b∈S) {G A:X} {xs q:bm r.den} {f1:ahb} {v:ev} {M:bv Addr} (fz:a.eval K=.slice s G A) (ds:aS (bf I C.B) w (.osl r) [.slice s G A] xs f1) (bs:f1.Nodup) (fl:∀e∈f1,∃j∈S,∃k,aq st.h j=Y k/\e∈fp j) (fT:a.eval L=.slice M q.length i) (bl:ks (bf I C.B) w r M q v) (bx:v.flatten.Nodup) (fn:∀e∈v.flatten,∃j∈S,∃k,aq st.h j=Y k/\e∈fp j) (a3:∀e∈f1,e∉v.flatten) (ci:xs.length+q.length<=hD) (c2:Q ⟨(b,.ref b [])::kill S [] st.g,(b,⟨.osl r,xs++q⟩)::del S st.h⟩):o.wp E.P a w next N:=by
 obtain⟨j,el,em,T,U⟩:=gY.ok ad;have D:=U.lay ce;obtain⟨f0,_,d2,_⟩:=D.info;have ft:∀j k,aq st.h j=Y k->∀e∈fp j,e<w.heap.size/\∀F,¬bf I C.B F e:=λj k y e l=>⟨((p.tree j k y).2.2 e l).2.2.1,p.notM y e l⟩;obtain⟨u,m,f2,f6,d4,_,aE,d5,d6,d7,d8,d9,d3,f7,_,ek⟩:=K8 (P:=E.P) (ty:=o.type) T D d2.info d0 ds (c:=i) bl bs (λe l=>by grind) bx a3 (λF e co=>p.ib e (m0 co)) (λe l=>by grind) (λe l=>by grind) ci;have dl:(bL a.eval o).run E.P w=.ok (.value u) m:=K7 (E:=E) c1 (by grind);have an:∀e∈f2,(∃j∈S,∃k,aq st.h j=Y k/\e∈fp j)\/(w.heap.size<=e/\e<m.heap.size):=λe l=>by
  rcases d5 e l with n|n|n
  ·grind
  ·grind
  omega
 have d1:=p.eC (nk.one (st:=st) (C:=C) (rt:=rt) (w':=m) (I':=I) (S:=S) (d:=b) (t:=⟨.osl r,xs++q⟩) (cs:=[u]) (f:=f2) (.inl a0) d6 d7 d8 d9 (λe l eq=>d3 e l (λex=>by grind)) ek (λ_ n=>n) (λ_ n=>.inl n) d4 aE (λe l=>by
   rcases an e l with⟨j,fs,k,y,am⟩|⟨O,R⟩
   ·obtain⟨ax,f3,f4,f5⟩:=(p.tree j k y).2.2 e am;grind
   exact⟨λV=>by have:=p.ib e (.inl V);omega,R,.inl O⟩))
 unfold ahp;rw[dl];show next (a.put o.dst u) m
 rw[ap];refine cv _ _ _ c2 bn ⟨I,_,_,d1.put a4 (av:=.ref b []) ?_⟩;have:u=cW (.osl r) [u]:=rfl;rw[this];refine .ref (t:=⟨.osl r,xs++q⟩) (loc:=bo) (by rw[kH,dg,au bn];rfl) ?_;rw[D4];exact aX.here
end
end
section
section
variable {E:fy} {C:eZ} {st:aM} {a:Act} {A:ag3} {w:bD} {I:X->Prop} {rt:X->ag5} {fp:X->ahb} {o:bQ} {Q:aM->Prop}
theorem La {a0 f0:bM} (i8:o.op=.call {callee:=.builtin .append,args:=#[a0,f0],argTypes:=#[x,x]}) (ce:o.dst=Y b) (hr:C.ok b) (p:cM C st a.tmps w I rt fp) {next:Act->bD->Prop} {f1:b4->Act->bD->Prop} (i3:∀fz a3 w',Q fz->a3.defers=a.defers->gN C fz a3.tmps w'->next a3 w') {ap:ai} (gl:gY E.tt x=Y ap) (io:a9 ap r=bp) (kg:r.size<=1300) (dl:r.kK=bp) {id:X} (hs:aU st.g a0=.ref id n) {m:d.den} (u:aq st.h id=Y ⟨d,m⟩) (hi:aq st.h b=bo) {y O:bm r.den} (cs:eN d m n (.osl r) y) {S2:ahb} (le:∃d1 G A,a.eval f0=.slice d1 O.length G/\ks (bf I C.B) w r d1 O A/\A.flatten.Nodup/\∀e∈A.flatten,∃f∈S2,∃z,aq st.h f=Y z/\e∈fp f) (bx:∀f∈S2,f≠id/\∃ap,aq st.h f=Y ap) (is:y.length+O.length<=hD) (el:Q ⟨(b,.app id n r O (b::S2))::kill [id] [(id,n),(id,[])] st.g,(b,⟨.eK,()⟩)::(id,⟨d,m⟩)::del [id] st.h⟩):o.wp E.P a w next f1:=by
 obtain⟨f,pm,bs,gc,ge⟩:=gY.ok gl;have d4:=ge.lay io;obtain⟨rs,_,mp,_⟩:=d4.info;have ds:=p.aU a0;rw[hs] at ds;generalize lc:a.eval a0=tl at ds;cases ds with|ref q c2=>
 rename_i t0 d2 f3;rw[u] at q;cases q;simp only at c2;obtain⟨mt,fn,mz⟩:=p.tree id _ u;obtain⟨s0,ps,H,d0,f6,d3,f7,R,rg,f8,f9⟩:=zN n (loc:=bo) mt (λ_ _ j=>by cases j) fn (λ_ _ j=>by cases j) (p.notM u) cs;obtain⟨f4,ao,f5⟩:=c2.lu f6;subst f4;subst ao;subst f5;have ek:=R.nodup_iff.1 fn;rw[jY] at ek;obtain⟨i0,d9,i1⟩:=ek;obtain⟨a4,bl,rfl,_⟩:=(show aS (bf I C.B) w (.osl r) f3 y H from d3);obtain⟨d1,G,A,lk,hv,ic,co⟩:=le;have V:∀e∈H,e∈fp id:=λe i=>R.mem_iff.2 (by grind);have c1:∀e∈fp id,e<w.heap.size/\∀M,¬bf I C.B M e:=λe i=>⟨(mz e i).2.2.1,p.notM u e i⟩;have lf:∀e∈A.flatten,e<w.heap.size:=λe i=>(by obtain⟨f,l,z,ad,T⟩:=co e i;exact((p.tree f z ad).2.2 e T).2.2.1);obtain⟨fT,w',f2,ne,nn,ft,no,nx,n7,of,ol,on,fs,ti,_,or⟩:=K8 (P:=E.P) (ty:=o.type) gc d4 mp.info kg d3 (c:=G) hv i0 (λe i=>(c1 e (V e i)).2) ic (λe i gt=>by
  obtain⟨f,l,z,ad,T⟩:=co e gt;exact p.dis id f _ z u ad (bx f l).1.symm e (V e i) T)
  (λM e d8=>p.ib e (m0 d8)) (λe i=>(c1 e (V e i)).1) lf is
 have kd:(bL a.eval o).run E.P w=.ok (.value fT) w':=K7 (E:=E) i8 (by rw[lc,lk];exact ne);have em:∀e∈d0,e<w.heap.size/\e∉H:=λe i=>⟨(c1 e (R.mem_iff.2 (by grind))).1,λj=>i1 e j e i bn⟩;have eq:∀e,(∃M,bf I C.B M e)\/e∈d0->c5 w w' e:=λe i=>by
  rcases i with⟨M,d8⟩|i
  ·grind
  exact .of_heap (fs e (em e i).1 (em e i).2)
 have go:∀e N,d2=Y (e,N)->fq w' e N [.slice a4 y.length bl]:=λe N k=>(by have i:e∈d0:=(by grind);exact(f7 e N k).1.sm (eq e (.inr i)));obtain⟨pv,J,sz,_,ll,_,lo,lt⟩:=f8 w' (bf I C.B) [.slice a4 y.length bl] y H m (λ_ _ j=>j) (λe i=>by
  have U:c5 w w' e:=eq e (by
   rcases i with j|j|⟨N,j⟩
   ·grind
   ·grind
   grind)
  exact⟨λv _=>(U.1 v).1,λv=>(U.1 v).2,λv=>by rw[(U.1 v).1],U.2⟩) ft (λ_ _=>rfl) go (e9.same cs)
 obtain rfl:=ll bn (.inr bn);have rl:J.Perm (fp id):=lo.trans R.symm;have s:b≠id:=λk=>(by grind);have d6:∀e∈f2,e∈H\/e∈A.flatten\/(w.heap.size<=e/\e<w'.heap.size):=λe i=>nx e i
 let K:=f2.filter λe=>br (w.heap.size<=e)
 have hw:∀e∈K,w.heap.size<=e/\e<w'.heap.size:=λe i=>by
  have gs:=hx.1 i;have bs:w.heap.size<=e:=(by grind);rcases d6 e gs.1 with j|j|j
  ·grind
  ·grind
  omega
 have lb:=p.eC (S:=[id]) (keep:=[(id,n),(id,[])]) (new:=[(b,⟨.eK,()⟩),(id,⟨d,m⟩)]) (rtn:=λf=>if f=b then[] else rt id) (fpn:=λf=>if f=b then K else J) (w':=w') (I':=I) ⟨n7,of,ol,on,λe i gi=>fs e i (λj=>gi id ac _ u (V e j)),λe i=>.of_eq (or e i),λ_ j=>j,λ_ j=>.inl j,(by
   intro f F l;rw[dg] at l;split at l
   ·rename_i k;subst k;cases l;refine⟨.inr hi,(by simp only[cg];exact bn),(by grind),λe i=>?_⟩;simp only[cg] at i;obtain⟨ax,an⟩:=hw e i;exact⟨λgf=>by have:=p.ib e (.inl gf);omega,an,.inl ax⟩
   ·rw[dg] at l;split at l
    ·rename_i _ k;subst k;grind
    cases l),(by
   intro f v os oN l ii ro e i;have d5:∀am F,aq [(b,(⟨.eK,()⟩:aD)),(id,⟨d,m⟩)] am=Y F->am=b\/am=id:=λam F D=>by
    rw[dg] at D;split at D
    ·omega
    rw[dg] at D;split at D
    ·omega
    cases D
   have L:¬(id=b):=λk=>s k.symm;rcases d5 f os l with rfl|rfl<;>rcases d5 v oN ii with rfl|rfl
   ·omega
   ·grind
   ·grind
   omega),(by
   intro f l F q;have cv:f=(id,n)\/f=(id,[]):=(by grind);have bs:f.1=id:=(by grind);have q:aq st.h id=Y F:=(by grind);rw[u] at q;obtain rfl:=gD q;have L:¬(id=b):=λk=>s k.symm;refine⟨⟨d,m⟩,by rw[bs,dg,aw s,dg,au bn],bn,by grind,(by rcases cv with rfl|rfl;exact⟨_,c2.ty⟩;exact⟨d,by cases d<;>rfl⟩),λfl _ _ _ D el=>?_⟩;grind [DQ]),(by
   intro f l F q fl t1 to mc pr ra ce dl d9 d7 jp;have cv:f=(id,n)\/f=(id,[]):=(by grind);rcases cv with rfl|rfl
   ·rw[u] at q;obtain rfl:=gD q;have L:¬(id=b):=λk=>s k.symm;refine⟨⟨d,m⟩,by rw[dg,aw s,dg,au bn],d7,λG hc=>?_⟩;obtain⟨ax,an⟩:=f9 fl _ _ _ _ _ ce (by exact dl) d7 d9 jp G hc;grind
   grind [uB])⟩
 unfold ahp;rw[kd];show next (a.put o.dst fT) w'
 rw[ce];refine i3 _ _ _ el bn ⟨I,_,_,lb.put hr (av:=.app id n r O (b::S2)) ?_⟩;have L:¬(id=b):=λk=>s k.symm;have l2:aq ([(b,(⟨.eK,()⟩:aD)),(id,⟨d,m⟩)]++del [id] st.h) id=Y ⟨d,m⟩:=(by rw[kH,dg,aw s,dg,au bn];rfl);have mc:aq ([(b,(⟨.eK,()⟩:aD)),(id,⟨d,m⟩)]++del [id] st.h) b=Y ⟨.eK,()⟩:=(by rw[kH,dg,au bn];rfl);have ex:aq [(b,(⟨.eK,()⟩:aD)),(id,⟨d,m⟩)] id=Y ⟨d,m⟩:=(by rw[dg,aw s,dg,au bn]);have mo:aq [(b,(⟨.eK,()⟩:aD)),(id,⟨d,m⟩)] b=Y ⟨.eK,()⟩:=(by rw[dg,au bn]);have rd:fh [(b,(⟨.eK,()⟩:aD)),(id,⟨d,m⟩)] (λf=>if f=b then K else J) fp id=J:=(by simp only[fh,ex,aw L]);have rb:fh [(b,(⟨.eK,()⟩:aD)),(id,⟨d,m⟩)] (λf=>if f=b then K else J) fp b=K:=(by simp only[fh,mo,cg]);have nd:fh [(b,(⟨.eK,()⟩:aD)),(id,⟨d,m⟩)] (λf=>if f=b then[] else rt id) rt id=rt id:=(by simp only[fh,ex,aw L]);have i2:aX w' d bo (rt id) n (.osl r) d2 [.slice a4 y.length bl]:=lt.1;refine .app (t:=⟨d,m⟩) l2 dl (by rw[nd];exact i2) cs ft (λe i=>by grind) nn ?_ ?_ no
 ·intro f l;rcases fR.1 l with rfl|l
  ·grind
  obtain⟨ax,pl,an⟩:=bx f l;have ci:¬(b=f):=λk=>(by grind);refine⟨ax,pl,?_⟩;rw[kH,dg,aw ci,dg,aw (λk=>ax k.symm),mZ,aw (by grind),an];rfl
 intro e i;rcases d6 e i with j|j|j
 ·grind
 ·obtain⟨f,l,z,ad,T⟩:=co e j;obtain⟨ax,_⟩:=bx f l;have ci:¬(b=f):=λk=>(by grind);have tf:aq [(b,(⟨.eK,()⟩:aD)),(id,⟨d,m⟩)] f=bo:=(by rw[dg,aw ci,dg,aw (λk=>ax k.symm)];rfl);exact .inr ⟨f,g6 _ l,by grind [fh]⟩
 grind
theorem K9 {p:bM} (N:o.op=.call {callee:=.builtin .append,args:=#[c,p],argTypes:=#[x,x]}) (A:o.dst=Y b) (F:C.ok b) (y:cM C st a.tmps w I rt fp) {next:Act->bD->Prop} (M:∀j e l,Q j->e.defers=a.defers->gN C j e.tmps l->next e l) {k:ai} (z:gY E.tt x=Y k) (J:a9 k d=bp) (R:d.size<=1300) (L:d.kK=bp) {id:X} (G:aU st.g c=.ref id n) {i:r.den} (S:aq st.h id=Y ⟨r,i⟩) (D:aq st.h b=bo) {m f:bm d.den} (H:eN r i n (.osl d) m) (T:yx I C.B w d (a.eval p) f) (K:m.length+f.length<=hD) (O:Q ⟨(b,.app id n d f [b])::kill [id] [(id,n),(id,[])] st.g,(b,⟨.eK,()⟩)::(id,⟨r,i⟩)::del [id] st.h⟩):o.wp E.P a w next t:=by obtain⟨U,q,s,u,v,V⟩:=T;exact La (S2:=[]) N A F y M z J R L G S D H ⟨U,q,s,u,v,by grind,by grind⟩ ac K O
end
end
section
section
variable {E:fy} {C:eZ} {st:aM} {o:bQ} {Q:aM->Prop}
theorem e0.app {d1:bm (X×ai)} {U:bF} {z L:bM} {s:X} (y:o.op=.call {callee:=.builtin .append,args:=#[z,L],argTypes:=#[U,U]}) (v:o.dst=Y s) (w:C.ok s) (a:(Br E.tt d1 st s U (aU st.g z) (aU st.g L)).K Q):e0 E C o st Q:=by
 rintro A J ⟨F,R,H,c⟩ next fz x
 have q:=c.aU z;unfold Br at a;split at a
 ·exact a.elim
 rename_i T u;split at a
 ·rename_i id t;split at a
  case h_2=>exact a.elim
  rename_i e l f;cases b:(a9 T e&&b2 e.size 1300) with
  |false=>rw[b] at a;exact a.elim
  |true=>
  rw[b] at a;simp only[cC] at b;obtain⟨j,d⟩:=b;have d:=gV d;simp only[bG] at a;rw[t] at q;generalize D:A.eval z=ds at q;cases q with|ref I ap=>
  rw[f] at I;cases I;obtain⟨ao,_,G⟩:=aX.gz.1 ap;subst ao;subst G;obtain⟨O,P,fl⟩:=c.tree id _ f;obtain⟨a3,ad,f2,_⟩:=(show aS (bf F C.B) J (.osl e) (R id) l (H id) from O);have c1:A.eval z=.slice a3 l.length ad:=(by rw[D];show(R id).headD bW=_;grind);have dl:aS (bf F C.B) J (.osl e) [.slice a3 l.length ad] l (H id):=(by grind);split at a
  ·rename_i k f5 d2;split at a
   case h_2=>exact a.elim
   rename_i d0 r N;split at a
   case isFalse=>exact a.elim
   rename_i bs;subst bs;cases bx:bI id k with
   |true=>rw[bx] at a;exact a.elim
   |false=>
   rw[bx] at a;have d6:id≠k:=λbs=>(by grind [ai9]);obtain⟨_,h,a⟩:=a;have av:=c.aU L;rw[d2] at av;generalize p:A.eval L=gf at av;cases av with|ref cv d5=>
   rw[N] at cv;cases cv;obtain⟨ao,_,G⟩:=aX.gz.1 d5;subst ao;subst G;obtain⟨fn,fs,ge⟩:=c.tree k _ N;obtain⟨a4,bl,f3,_⟩:=(show aS (bf F C.B) J (.osl d0) (R k) r (H k) from fn);have d7:A.eval L=.slice a4 r.length bl:=(by rw[p];show(R k).headD bW=_;grind);have fp:aS (bf F C.B) J (.osl d0) [.slice a4 r.length bl] r (H k):=(by grind);obtain⟨_,_,M,n,ci,d4,_⟩:=ks.osl fp;exact e0.yB y v w c x u j d (S:=[id,k,s]) ac c1 dl P (λm b=>⟨id,ac,_,f,b⟩) d7 n (d4 fs) (λm b=>⟨k,ac,_,N,ci m b⟩) (λm b d3=>c.dis id k _ _ f N d6 m b (ci m d3)) h a
  obtain⟨r,i,h,a⟩:=lV.E4 a;obtain⟨a0,V,M,p,n,am⟩:=vz c i;exact e0.yB y v w c x u j d (S:=[id,s]) ac c1 dl P (λm b=>⟨id,ac,_,f,b⟩) p n (by grind) (by grind) (by grind) h a
 ·rename_i id gc f6 t;split at a
  case h_2=>exact a.elim
  rename_i go gi f ce;split at a
  case h_2=>exact a.elim
  rename_i e f7;cases b:(a9 T e&&b2 e.size 1300&&e.kK) with
  |false=>rw[b] at a;exact a.elim
  |true=>
  rw[b] at a;simp only[cC] at b;obtain⟨⟨j,d⟩,cs⟩:=b;have d:=gV d;simp only[bG] at a;split at a
  ·rename_i r i;obtain⟨l,⟨an,h⟩,a⟩:=a;exact K9 y v w c x u j d cs t f ce an (vz c (by rw[i];exact bn)) h a
  ·rename_i gl gs fT i;obtain⟨⟨l,em⟩,⟨an,d8,h⟩,a⟩:=a;exact K9 y v w c x u j d cs t f ce an (vz c (by rw[i];exact⟨em,d8,bn⟩)) h a
  exact a.elim
 ·rename_i id c2 co t;split at a
  case h_2=>exact a.elim
  rename_i e l f;cases b:(a9 T e&&b2 e.size 1300) with
  |false=>rw[b] at a;exact a.elim
  |true=>
  rw[b] at a;simp only[cC] at b;obtain⟨j,d⟩:=b;have d:=gV d;simp only[bG] at a;rw[t] at q;obtain⟨O,P,fl⟩:=c.tree id _ f;generalize D:A.eval z=ds at q;cases q with|ma=>(obtain⟨r,i,h,a⟩:=lV.E4 a;obtain⟨a0,V,M,p,n,am⟩:=vz c i;exact e0.yB y v w c x u j d (S:=[id,s]) ac (xs:=[]) (f1:=[]) D ⟨bo,0,bn,.inl ⟨bn,bn,bn,bn⟩⟩ ac ac p n (by grind) (by grind) ac (by grind) (by grind))|view I ap d9 ek el=>
  rename_i m f9 f8 ad;rw[f] at I;cases I;obtain⟨ao,_,G⟩:=aX.gz.1 ap;cases ao;obtain⟨r,i,h,a⟩:=lV.E4 a;obtain⟨a0,V,M,p,n,am⟩:=vz c i;rw[G] at O;obtain⟨ft,ax,eq,ex⟩:=adX (show aS (bf F C.B) J (.osl e) _ l (H id) from O) P d9 ek el;have f4:((l.take co).drop c2).length=co-c2:=(by grind [ks.osl]);exact e0.yB y v w c x u j d (S:=[id,s]) ac D ax eq (λm b=>⟨id,ac,_,f,ex m b⟩) p n (by grind) (by grind) (by grind) h a
 ·rename_i t;split at a
  case h_2=>exact a.elim
  rename_i e f0;cases b:(a9 T e&&b2 e.size 1300) with
  |false=>rw[b] at a;exact a.elim
  |true=>
  rw[b] at a;simp only[cC] at b;obtain⟨j,d⟩:=b;have d:=gV d;simp only[bG] at a;rw[t] at q;generalize D:A.eval z=ds at q;cases q;obtain⟨r,i,h,a⟩:=lV.E4 a;obtain⟨a0,V,M,p,n,am⟩:=vz c i;exact e0.yB y v w c x u j d (S:=[s]) ac (xs:=[]) (f1:=[]) D ⟨bo,0,bn,.inl ⟨bn,bn,bn,bn⟩⟩ ac ac p n (by grind) (by grind) ac (by grind) (by grind)
 exact a.elim
end
end
section
def il (E:fy) (C:eZ) (A:bU bQ) (g:ahb) (st:aM) (Q:aM->Prop):Prop:=
 ∀(a:Act) (e:bD),gN C st a.tmps e->∀c:b4->Act->bD->Prop,(∀d b f,Q d->b.defers=a.defers->gN C d b.tmps f->c .normal b f)->wpOps E.P A c g a e
def kP (A:bU bQ) (st:aM) (d:bQ) (a:bA):Prop:=
 match d.guard with
 |none=>a=bp
 |some (c,e)=>match(A[c]?).bind (·.dst) with
  |some b=>match gt st.g b with
   |.val .bool f=>(f==e)=a
   |.df (.tuple _)=>a=bq
   |_=>b5
  |none=>b5
section
variable {E:fy} {C:eZ} {st:aM} {A:bU bQ} {Q:aM->Prop}
theorem kP.ok {b:Act} (h:cM C st b.tmps f j p q) {l:bQ} {g:bA} (d:kP A st l g):ajW l (yielded A b.tmps)=g:=by
 unfold kP at d;unfold ajW;split at d
 ·grind
 rename_i t w m;rw[m];split at d
 ·rename_i c i;split at d
  ·rename_i s e;have:=h.tmp c;rw[e] at this;generalize a:b.tmps.getD c bW=r at this;cases this with|val o=>
   obtain⟨_,rfl⟩:=o;have n:b.tmps[c]?=Y (.bool s):=by
    rw[akC] at a;cases k:b.tmps[c]? with
    |none=>rw[k] at a;cases a
    |some v=>rw[k] at a;simp only[r2] at a;rw[a];rfl
   simp only[yielded,i,aC,n];rw[<-d];grind
  ·rename_i u e;have:=h.tmp c;rw[e] at this;generalize a:b.tmps.getD c bW=r at this;cases this;subst d;simp only[yielded,i,aC];rw[akC] at a;grind
  grind
 grind
def il.nil (b:Q st):il E C A [] st Q:=λa e c _ d=>d st a e b bn c
def il.op {a:bQ} (p:A[b]?=Y a) (t:kP A st a bp) (i:e0 E C a st (λd=>il E C A k d Q)):il E C A (b::k) st Q:=by intro f v c e q;obtain⟨y,B,z,l⟩:=id c;simp only[wpOps,p];rw[t.ok l,au bn];exact .inl (i f v c _ _ (λd g w o m r=>o g w r e (λu h x j n s=>q u h x j (n.trans m) s)))
theorem il.skip {a:bQ} (r:A[i]?=Y a) (o:a.dst=Y b) (q:C.ok b) (u:kP A st a bq) (l:il E C A k ⟨(b,.df bW)::st.g,st.h⟩ Q):il E C A (i::k) st Q:=by intro z x n e s;obtain⟨d,v,j,c⟩:=id n;simp only[wpOps,r];rw[u.ok c,aw ac,o];exact l _ x ⟨d,v,j,c.put q (.df bW)⟩ e (λw f y m p t=>s w f y m p t)
def gN.yL {b:ag3} {c:bD} {st a:aM} (f:gN C st b c) (j:oZ a.g st) (k:o0 a.h st) (l:my a.g a.h=bp):gN C a b c:=by obtain⟨d,m,e,i⟩:=f;exact⟨d,m,e,i.yL j k (my.get l)⟩
def J (E:fy) (C:eZ) (e:cr) (st:aM) (Q:b4->aM->Prop):Prop:=
 ∀(a:Act) (d:bD),gN C st a.tmps d->a.defers=[]->e.wp E.P (λf b g=>∃c,Q f c/\gN C c b.tmps g/\b.defers=[]) a d
variable {R:b4->aM->Prop}
def J.adZ {a:cr} (f:oZ O.g st) (i:o0 O.h st) (j:my O.g O.h=bp) (c:J E C a O R):J E C a st R:=λb k d e=>c b k (d.yL f i j) e
theorem J.region {id:X} (c:il E C A (bH A.size) st (λa=>R .normal a)):J E C (.region id A bq) st R:=
 λb i d e=>wp_region (c b i d _ (λa _a' _w' g f h=>⟨a,g,h,f.trans e⟩))
theorem J.skip (a:R .normal st):J E C .skip st R:=λ_ _ b c=>wp_skip ⟨st,a,b,c⟩
theorem J.exit {id:X} (a:R (.exit id) st):J E C (.exit id) st R:=λ_ _ b c=>wp_exit ⟨st,a,b,c⟩
theorem J.ret (a:R .ret st):J E C .ret st R:=λ_ _ b c=>wp_ret ⟨st,a,b,c⟩
def acr (E:fy) (C:eZ) (b:cr) (R:b4->aM->Prop):b4->aM->Prop
 |.normal,a=>J E C b a R
 |e,a=>R e a
def J.seq {d e:cr} (i:J E C d st (acr E C e R)):J E C (.seq d e) st R:=λf m j k=>by
 refine wp_seq (wp_mono (i f m j k) ?_);rintro h g n ⟨l,a,b,c⟩;cases h with
 |normal=>exact a g n b c
 |_=>exact⟨l,a,b,c⟩
def J.cond {a:bM} {l m:cr} {c:bA} (n:aU st.g a=.val .bool c) (p:c=bp->J E C l st R) (o:c=bq->J E C m st R):J E C (.cond a l m) st R:=by
 rintro b k ⟨f,j,h,e⟩ i;have:=e.aU a;rw[n] at this;generalize q:b.eval a=s at this;cases this with|val r=>
 obtain⟨_,rfl⟩:=r;exact wp_cond_split q (λd=>p d b k ⟨f,j,h,e⟩ i) (λd=>o d b k ⟨f,j,h,e⟩ i)
def F1 (id:X) (R:b4->aM->Prop):b4->aM->Prop
 |.exit b,a=>match bI b id with
  |true=>R .normal a
  |false=>R (.exit b) a
 |e,a=>R e a
theorem J.block {id:X} {b:cr} (f:J E C b st (F1 id R)):J E C (.block id b) st R:=λd m i j=>by
 refine wp_block (wp_mono (f d m i j) ?_);rintro e n o ⟨l,a,g,h⟩;cases e with
 |exit c=>
  simp only[Exit.inBlock];simp only[F1] at a;by_cases k:c=id
  ·subst k;rw[ai9] at a;grind
  have:bI c id=bq:=(by grind [ahZ]);grind
 |_=>exact⟨l,a,g,h⟩
def j7 {a c:Type} (b:a->bv (a⊕c)):X->a->bv c
 |0,_=>bo
 |n+1,e=>match b e with
  |none=>bo
  |some (.inl f)=>j7 b n f
  |some (.inr d)=>Y d
open Classical in
def loop {σ ρ:Type} (a:σ->bv (σ⊕ρ)) (d:σ):bv ρ:=
 if h:∃c,∃b,j7 a b d=Y c then Y h.choose else bo
theorem Ih {e g:Type} {f:e->bv (e⊕g)}:∀{n b:X} {d:e} {c:g},n<=b->j7 f n d=Y c->j7 f b d=Y c
 |0,_,_,_,_,a=>by cases a
 |n+1,0,_,_,a,_=>by omega
 |n+1,b+1,d,c,h,a=>by
  simp only[j7] at a|-;split at a
  ·cases a
  ·exact Ih aa a
  omega
theorem xq {c:N->bv (N⊕S)} {d:N} {b:S}:loop c d=Y b↔∃a,j7 c a d=Y b:=by
 unfold loop;constructor
 ·intro g;split at g
  ·grind
  grind
 rintro⟨a,f⟩;have e:∃b,∃a,j7 c a d=Y b:=⟨b,a,f⟩;rw[aip e];obtain⟨h,j⟩:=e.choose_spec;have i:=Ih (Nat.le_max_left a h) f;grind [Ih,Nat.le_max_right]
theorem DZ (c:N->bv (N⊕S)) (d:N):loop c d=match c d with
 |none=>bo
 |some (.inl f)=>loop c f
 |some (.inr e)=>Y e:=by
 apply Option.ext;intro e;rw[xq];cases i:c d with
 |none=>
  simp only[reduceCtorEq,iff_false];rintro⟨a,b⟩;cases a with
  |zero=>cases b
  |succ a=>grind [j7]
 |some g=>
  cases g with
  |inl f=>
   simp only;rw[xq];constructor
   ·rintro⟨a,b⟩;cases a with
    |zero=>cases b
    |succ a=>grind [j7]
   rintro⟨a,b⟩;exact⟨a+1,by grind [j7]⟩
  |inr j=>
   simp only;constructor
   ·rintro⟨a,b⟩;cases a with
    |zero=>cases b
    |succ a=>grind [j7]
   intro h;exact⟨1,by grind [j7]⟩
theorem J.loop {σ ρ K:Type} {b:cr} (kX:σ->aM) {z:σ->bv (σ⊕ρ)} {s:σ} {w:ρ->bv K} {I:K} (N:(loop z s).bind w=Y I) (T:oZ (kX s).g st) (U:o0 (kX s).h st) (V:my (kX s).g (kX s).h=bp) (S:∀d q,z d=Y q->(match q with|.inl _=>True|.inr G=>w G=Y I)->J E C b (kX d) (λc t=>match q with
  |.inl r=>c=.normal/\oZ (kX r).g t/\o0 (kX r).h t/\my (kX r).g (kX r).h=bp
  |.inr _=>(c=.normal->b5)/\R c t)):J E C (.loop b) st R:=by
 obtain⟨G,am,bl⟩:=eO.1 N;obtain⟨p,i⟩:=xq.1 am;have ap:∀(p:X) (d:σ) (e:Act) (l:bD),j7 z p d=Y G->gN C (kX d) e.tmps l->e.defers=[]->∀(j:Frame) (w:bm Item) (k:bm Frame),
  ∃c v B,(∃t,R c t/\gN C t v.tmps B/\v.defers=[])/\Arrives E.P (lone (j.at e (.code b::.inLoop b::w)) k l) j w k c v B:=by
  intro p
  induction p with
  |zero=>intro d e l i;cases i
  |succ p an=>
   intro d e l i D F j A k;simp only[j7] at i;cases H:z d with
   |none=>grind
   |some q=>
    rw[H] at i;have Q:=S d q H (by
     grind)
    obtain⟨c,m,u,⟨y,a,o,n⟩,f⟩:=Q e l D F j (.inLoop b::A) k;cases q with
    |inl r=>
     simp only at i a;obtain⟨rfl,ax,av,a0⟩:=a;obtain⟨M,L,a3,ad,O⟩:=an r m u i (o.yL ax av a0) n j A k;exact⟨M,L,a3,ad,.of_steps (Steps.trans f (.one step_inLoop)) O⟩
    |inr ce=>
     obtain⟨bs,a⟩:=a;cases c with
     |normal=>grind
     |exit id=>exact⟨_,m,u,⟨y,a,o,n⟩,.pass (x:=.inLoop b) rfl (λ_ _=>.inl ac) f⟩
     |goto bx=>exact⟨_,m,u,⟨y,a,o,n⟩,.pass (x:=.inLoop b) rfl (λ_ _=>.inl ac) f⟩
     |ret=>exact⟨_,m,u,⟨y,a,o,n⟩,.pass (x:=.inLoop b) rfl (λ_ _=>.inl ac) f⟩
     |panic a4=>exact⟨_,m,u,⟨y,a,o,n⟩,.pass (x:=.inLoop b) rfl (λ_ _=>.inl ac) f⟩
     |outgrown=>exact⟨_,m,u,⟨y,a,o,n⟩,.pass (x:=.inLoop b) rfl (λ_ _=>.inl ac) f⟩
 refine J.adZ T U V (λe l D F j A k=>?_);obtain⟨c,v,B,a,f⟩:=ap p s e l i D F j A k;exact⟨c,v,B,a,.of_steps (.one step_loop) f⟩
end
end
def sZ:eD->eD->bA
 |.bh,_=>bp
 |.eE,.eE=>bp
 |.eE,.bh=>bq
def xg:eD->bA
 |.eE=>bp
 |.bh=>bq
def eH:ai->ai->bA
 |.int i,.int j=>if i=j then bp else bq
 |.bool,.bool|.str,.str|.nil,.nil=>bp
 |.a6 c a,.a6 d b=>sZ c d&&eH a b
 |.osl a,.a6 c b=>xg c&&eH a b
 |.ptr c a,.ptr d b=>sZ c d&&eH a b
 |.st a,.st b=>eH a b
 |.pr e f,.pr g h=>eH e g&&eH f h
 |.mp a,.fw c b=>xg c&&eH a b
 |.fw c a,.fw d b=>sZ c d&&eH a b
 |.fn k a,.fn c b=>bI k c&&eH a b
 |_,_=>bq
theorem sZ.ok {f e:X->Prop} (h:∀b,j b->e b) {c d:eD} (g:sZ c d=bp) (a:bf f j c b):bf f e d b:=by
 cases c<;>cases d
 ·exact a
 ·exact .inl a
 ·cases g
 exact a.imp id (h b)
theorem xg.ok {a:eD} (b:xg a=bp):a=.eE:=by cases a;cases b;rfl
theorem eH.den:∀{e b:ai},eH e b=bp->e.den=b.den:=by
 intro e
 induction e with
 |a6 f c d=>
  intro b a;cases b<;>simp only[eH] at a<;>try (cases a;done)
  grind
 |ptr f c d=>
  intro b a;cases b<;>simp only[eH] at a<;>try (cases a;done)
  grind
 |osl c d=>
  intro b a;cases b<;>simp only[eH] at a<;>try (cases a;done)
  grind
 |st c d=>
  intro b a;cases b with
  |st m=>grind [eH]
  |_=>simp only[eH] at a;cases a
 |pr g h i j=>
  intro b a;cases b<;>simp only[eH] at a<;>try (cases a;done)
  grind
 |int k=>intro b a;cases b<;>simp only[eH] at a<;>first|rfl|cases a
 |bool=>intro b a;cases b<;>simp only[eH] at a<;>first|rfl|cases a
 |str=>intro b a;cases b<;>simp only[eH] at a<;>first|rfl|cases a
 |nil=>intro b a;cases b<;>simp only[eH] at a<;>first|rfl|cases a
 |optr c _=>grind [eH]
 |eK=>grind [eH]
 |mp c d=>
  intro b a;cases b<;>simp only[eH] at a<;>try (cases a;done)
  grind
 |fw f c d=>
  intro b a;cases b<;>simp only[eH] at a<;>try (cases a;done)
  grind
 |fn l c d=>
  intro b a;cases b<;>simp only[eH] at a<;>try (cases a;done)
  grind
theorem eH.size:∀{c b:ai},eH c b=bp->c.size=b.size:=by
 intro c
 induction c with
 |st i d=>intro b a;cases b<;>simp only[eH] at a<;>first|(simp only[ai.size];exact d a)|cases a
 |pr e f g h=>
  intro b a;cases b<;>simp only[eH] at a<;>try (cases a;done)
  simp only[cC] at a;grind [ai.size]
 |_=>intro b a;cases b<;>simp only[eH] at a<;>first|rfl|cases a
theorem M6 (k:N=S) {d:bv (bm (Z×N)×X)} {g:bv (bm (Z×S)×X)} (l:HEq d g):(d=bo/\g=bo)\/∃i a j,d=Y (i,a)/\g=Y (j,a)/\∀e:bm (Z×X×N),kx e i a->∃f:bm (Z×X×S),kx f j a/\f.length=e.length/\∀(h:X) (c:Z×X×S),f[h]?=Y c->∃b:Z×X×N,e[h]?=Y b/\b.1=c.1/\b.2.1=c.2.1/\HEq b.2.2 c.2.2:=by
 subst k;cases l;cases d with
 |none=>grind
 |some m=>grind
theorem eH.cW {a b:ai} (d:eH a b=bp) (c:ag5):cW b c=jm.cW a c:=by cases a<;>cases b<;>simp only[eH] at d<;>first|rfl|cases d
theorem M5 (f:S=N) {a:bm S} {b:bm N} (g:HEq a b):b.length=a.length/\∀(e:X) (d:N),b[e]?=Y d->∃c,a[e]?=Y c/\HEq c d:=by subst f;grind
theorem VO (e:N=S) {a:bv N} {c:bv S} (f:HEq a c):(a=bo/\c=bo)\/∃b d,a=Y b/\c=Y d/\HEq b d:=by
 subst e;cases f;cases a with
 |none=>grind
 |some b=>grind
theorem VP {c d:Type} (e:N=c) (f:S=d) {a:N×S} {b:c×d} (g:HEq a b):HEq a.1 b.1/\HEq a.2 b.2:=by grind
theorem aS.eE {E D:X->Prop} (N:∀d,D d->j d):∀{r υ:ai} {e:ag5} {x:r.den} {y:υ.den} {g:ahb},eH r υ=bp->HEq x y->aS (bf E D) f r e x g->(∀d∈g,j d)->aS (bf E j) f υ e y []:=by
 intro r
 induction r with
 |int cs=>
  intro υ e x y g a c b _;cases υ<;>simp only[eH] at a<;>try (cases a;done)
  split at a
  ·rename_i K;subst K;cases c;exact⟨bn,b.2⟩
  grind
 |bool=>intro υ e x y g a c b _;cases υ<;>simp only[eH] at a<;>first|(cases a;done)|(cases c;exact⟨bn,b.2⟩)
 |str=>intro υ e x y g a c b _;cases υ<;>simp only[eH] at a<;>first|(cases a;done)|(cases c;exact⟨bn,b.2⟩)
 |nil=>intro υ e x y g a c b _;cases υ<;>simp only[eH] at a<;>first|(cases a;done)|(cases c;exact⟨bn,b.2⟩)
 |optr l _=>grind [eH]
 |eK=>grind [eH]
 |mp l k=>
  intro υ e x y g a c b h;cases υ<;>simp only[eH] at a<;>try (cases a;done)
  simp only[cC] at a;obtain rfl:=xg.ok a.1;rcases M6 (eH.den a.2) c with⟨rfl,rfl⟩|⟨R,G,S,rfl,rfl,i⟩
  ·exact⟨bn,b.2⟩
  obtain⟨d,v,s,ax,n,z,q,C,U⟩:=b;obtain⟨t,A,p,i⟩:=i s z;refine⟨d,v,t,ax,bn,A,.inr (h d (by grind)),q,aa,λm T P=>?_⟩;grind [eH.size,eH.cW]
 |fw B l k=>
  intro υ e x y g a c b h;cases υ<;>simp only[eH] at a<;>try (cases a;done)
  simp only[cC] at a;rcases M6 (eH.den a.2) c with⟨rfl,rfl⟩|⟨R,G,S,rfl,rfl,i⟩
  ·exact⟨bn,b.2⟩
  obtain⟨d,v,s,ax,n,z,O,q,C,U⟩:=b;obtain⟨t,A,p,i⟩:=i s z;refine⟨d,v,t,ax,bn,A,sZ.ok N a.1 O,q,aa,λm T P=>?_⟩;grind [eH.size,eH.cW]
 |fn cv l k=>
  intro υ e x y g a c b h;cases υ<;>simp only[eH] at a<;>try (cases a;done)
  rename_i B o;simp only[cC] at a;obtain rfl:=fu a.1;obtain⟨_,V,ax,n⟩:=b;exact⟨bn,V,ax,k (υ:=o) (x:=x) (y:=y) a.2 c n ac⟩
 |st l k=>
  intro υ e x y g a c b h;cases υ with
  |st o=>exact k (υ:=o) (x:=x) (y:=y) (by grind [eH]) c b h
  |_=>simp only[eH] at a;cases a
 |pr J d ci co=>
  intro υ e x y g a c b h;cases υ<;>simp only[eH] at a<;>try (cases a;done)
  rename_i G an;simp only[cC] at a;obtain⟨bl,f2,rfl,w,M⟩:=b;obtain⟨ao,a4⟩:=VP (eH.den a.1) (eH.den a.2) c;have ce:=eH.size a.1;exact⟨[],[],bn,by grind,by grind⟩
 |a6 B l k=>
  intro υ e x y g a c b h;obtain⟨rfl,F,u,rfl,ax,n,q⟩:=b;cases υ<;>simp only[eH] at a<;>try (cases a;done)
  rename_i H o;simp only[cC] at a;obtain⟨p,i⟩:=M5 (eH.den a.2) c;refine⟨bn,F,u,by rw[p],aa,n,?_⟩;grind [sZ.ok,eH.size,List.eq_nil_of_length_eq_zero]
 |osl l k=>
  intro υ e x y g a c b h;cases υ<;>simp only[eH] at a<;>try (cases a;done)
  rename_i H o;simp only[cC] at a;obtain rfl:=xg.ok a.1;obtain⟨F,u,rfl,b⟩:=b;obtain⟨p,i⟩:=M5 (eH.den a.2) c;rcases b with⟨rfl,rfl,rfl,rfl⟩|⟨d,I,L,rfl,rfl,ax,n,q,C⟩
  ·obtain rfl:y=[]:=qx aa;exact⟨bn,bo,0,bn,bd _,λ_=>rfl,.inl bn⟩
  refine⟨bn,Y ⟨d,I,bo⟩,u,by rw[p],aa,(λa=>by cases a),.inr ⟨d,I,bn,.inr (h d ac),λm ad Q=>?_⟩⟩;obtain⟨am,w,M⟩:=i m ad Q;have bx:m<x.length:=(hJ.1 w).1;obtain⟨a3,ap,av,a0⟩:=C m am (L[m]'(by omega)) w ac
  grind [ajD,aiC,b6,eH.size]
 |ptr B l k=>
  intro υ e x y g a c b h;obtain⟨rfl,b⟩:=b;cases υ<;>simp only[eH] at a<;>try (cases a;done)
  rename_i H o;simp only[cC] at a;refine⟨bn,?_⟩;rcases VO (eH.den a.2) c with⟨rfl,rfl⟩|⟨J,d,rfl,rfl,bs⟩
  ·exact b
  grind [sZ.ok,eH.size]
inductive n1:(τ:ai)->τ.den->(υ:ai)->υ.den->Prop
 |same {τ υ:ai} {x:τ.den} {y:υ.den} (h:eH τ υ=bp) (VN:HEq x y):n1 τ x υ y
 |ptr {t u:ai} {x:t.den} {y:u.den} (h:eH t u=bp) (VN:HEq x y):n1 (.optr t) x (.ptr .eE u) (Y y)
theorem n1.rep {h B:X->Prop} (i:∀a,B a->j a) {m:d.den} {n:r.den} (b:n1 d m r n) (l:aS (bf h B) f d g m k) (e:∀a∈k,j a):aS (bf h j) f r g n []:=by
 cases b with
 |same b c=>exact l.eE i b c e
 |ptr b c=>
  obtain⟨a,q,u,p,rfl,rfl,ax,s,w,t⟩:=l;exact⟨bn,a,q,p,bn,.inr (e a ac),by grind [eH.size],s,t.eE i b c (λo v=>e o (by grind))⟩
def n1.st {c:d.den} {e:r.den} (a:n1 d c r e) (b:ag5):cW d b=cW r b:=by
 cases a with
 |same a _=>cases d<;>cases r<;>first|rfl|(simp only[eH] at a;cases a;done)
 |ptr a _=>rfl
section
def mn {c d e:Type} (b:c->d->e->Prop):bm c->bm d->bm e->Prop
 |[],[],[]=>True
 |a::as,f::g,h::i=>b a f h/\mn b as g i
 |_,_,_=>b5
def iB {c d:Type} (b:c->d->Prop):bm c->bm d->Prop
 |[],[]=>True
 |a::as,e::f=>b a e/\iB b as f
 |_,_=>b5
theorem KV {d e:Type} {f:d->e->Prop}:∀{as:bm d} {c:bm e},iB f as c->c.length=as.length
 |[],[],_=>rfl
 |[],_::_,b=>b.elim
 |_::_,[],b=>b.elim
 |a::as,g::c,b=>by have:=KV b.2;grind
def FL {e f:Type} {c:e->f->Prop}:∀{as:bm e} {d:bm f} {g:bm e} {h:bm f},iB c as d->iB c g h->iB c (as++g) (d++h)
 |[],[],_,_,_,b=>b
 |[],_::_,_,_,b,_=>b.elim
 |_::_,[],_,_,b,_=>b.elim
 |a::as,j::d,_,_,b,i=>⟨b.1,FL b.2 i⟩
theorem yy {h i:Type} {f:h->i->Prop}:∀{as:bm h} {c:bm i},as.length=c.length->(∀(e:X) a b,as[e]?=Y a->c[e]?=Y b->f a b)->iB f as c
 |[],[],_,_=>trivial
 |[],_::_,d,_=>by cases d
 |_::_,[],d,_=>by cases d
 |a::as,b::c,d,g=>⟨g 0 a b bn rfl,yy (by grind) (λe j k l m=>g (e+1) j k (by grind) (by grind))⟩
def FM {b g h:Type} {c:g->h->Prop} {d:b->g} {e:b->h} (f:∀x,c (d x) (e x)):∀a:bm b,iB c (a.map d) (a.map e)
 |[]=>trivial
 |x::a=>⟨f x,FM f a⟩
inductive hI where
 |v (t:aD)
 |m (t:aD) (y:t.1.den)
 |o (t:aD)
 |c (f:X) (aex:bm aD)
 |n
 |s (f:X) (l:ahb)
 |w (σ:ai) (xs:bm σ.den) (lo hi:X) (ys:bm σ.den)
def x9 (I c:X->Prop) (w:bD) (a:aD) (d:Value):Prop:=∃b,d=cW a.1 b/\aS (bf I c) w a.1 b a.2 []
def x6 (I f:X->Prop) (w:bD):hI->Value->ahb->Prop
 |.v b,d,a=>a=[]/\∃e,d=cW b.1 e/\aS (bf I f) w b.1 e b.2 []
 |.m b _,d,a=>∃e,d=cW b.1 e/\aS (bf I f) w b.1 e b.2 a
 |.o b,d,a=>∃e,d=cW b.1 e/\aS (bf I f) w b.1 e b.2 a
 |.n,d,a=>a=[]/\d=.slice bo 0 0
 |.s _ _,_,a=>a=[]
 |.w q h g j _,d,a=>∃k l i,d=.slice (Y ⟨k,l+g*q.size,bo⟩) (j-g) (i-g)/\(g<j/\j<=h.length/\h.length<=i)/\aS (bf I f) w (.osl q) [.slice (Y ⟨k,l,bo⟩) h.length i] h a
 |.c r t,d,a=>a=[]/\∃p:ag5,d=.func (.func r) #[] p.toArray/\iB (x9 I f w) t p
def pg:X->bm hI->bv ec
 |_,[]=>bo
 |k,.s a b::_=>Y (k,a,b)
 |k,_::c=>pg (k+1) c
def KE (w:bD) (b:ag5) (i:ev):bv ec->Prop
 |none=>True
 |some (d,h,e)=>d<b.length/\(∀c∈e,c<b.length)/\∃a f g,b.getD d bW=.pointer (Y ⟨a,f,bo⟩)/\a<w.heap.size/\a∉i.flatten/\w.cell? ⟨a,f,bo⟩=Y (.func (.func h) #[] g)/\g.toList=e.map λc=>b.getD c bW
def x7 (I e:X->Prop) (w:bD):hI->Value->ahb->Prop
 |.m i n,d,a=>∃g,d=cW i.1 g/\aS (bf I e) w i.1 g n a
 |.w j l b k o,d,a=>∃f h c,d=.slice (Y ⟨f,h+b*j.size,bo⟩) (k-b) (c-b)/\b<c/\aS (bf I e) w (.osl j) [.slice (Y ⟨f,h,bo⟩) l.length c] o a
 |_,_,a=>a=[]
def Be (I:X->Prop) (w:bD) (a:aD) (d:Value) (c:ahb):Prop:=∃b,d=cW a.1 b/\aS (bf I (λ_=>b5)) w a.1 b a.2 c
def qi:ag5->Value
 |[v]=>v
 |vs=>.tuple vs.toArray
structure KC (I B:X->Prop) (w:bD) (fs:ev) (args:bm hI) (vs:ag5) (res:bm aD) (I':X->Prop) (gs hs:ev) (lG:ag5) (w':bD):Prop where
 args:mn (x7 I' B w') args vs gs
 res:mn (Be I' w') res lG hs
 nd:(gs.flatten++hs.flatten).Nodup
 Lo:∀b∈gs.flatten++hs.flatten,¬I' b/\¬B b/\b<w'.heap.size/\(w.heap.size<=b\/b∈fs.flatten)
 i:∀b,I b->I' b
 i2:∀b,I' b->I b\/(b<w'.heap.size/\(w.heap.size<=b\/b∈fs.flatten))
 size:w.heap.size<=w'.heap.size
 os:w'.os=w.os
 tape:w'.tape=w.tape
 output:w'.output=w.output
 evo:∀b,b<w.heap.size->kQ w w' b
 heap:∀b,b<w.heap.size->b∉fs.flatten->w'.heap[b]?=w.heap[b]?
def lg (E:fy) (I:X->Prop) (w:bD):Prop:=∀a∈E.glob,aS (bf I λ_=>b5) w (.a6 .bh (.int a.k)) [.slice (Y ⟨a.b,0,bo⟩) a.xs.length a.xs.length] a.xs []
theorem lg.mono {E:fy} {I I':X->Prop} {w w':bD} (g:lg E I w) (c:∀a,I a->I' a) (i:∀a,I a->w'.heap[a]?=w.heap[a]?):lg E I' w':=λf h=>
 (g f h).mono (λe a d=>by
  have b:I a:=(by cases e;exact d;exact d.elim id False.elim);exact⟨by cases e;exact c a b;exact .inl (c a b),c5.of_heap (i a b)⟩) (λa b=>by cases b)
def rO (E:fy) (h:FuncId) (e:bm hI) (k:bm aD):Prop:=
 ∀(w:bD) (I c:X->Prop) (d:ag5) (b:ev),(∀a,I a\/c a->a<w.heap.size)->mn (x6 I c w) e d b->b.flatten.Nodup->(∀a∈b.flatten,¬I a/\¬c a/\a<w.heap.size)->KE w d b (pg 0 e)->lg E I w->Calls E.P h d.toArray w (λg w'=>∃I' i j f,g=.returned (qi f)/\KC I c w b e d k I' i j f w')
def ai.fY:ai->bA
 |.a6 .eE _|.ptr .eE _|.fw .eE _=>bq
 |.a6 .bh a|.ptr .bh a|.osl a|.optr a|.st a|.mp a|.fw .bh a|.fn _ a=>a.fY
 |.pr b c=>b.fY&&c.fY
 |_=>bp
def rK:ai->bA
 |.pr _ _|.nil|.eK=>bq
 |_=>bp
def abS (b:rK d=bp) (c:g.length=d.size) (e:y.length=d.size) (a:cW d g=cW d y):g=y:=by
 have i:d.size=1->cW d g=g.headD bW->cW d y=y.headD bW->g=y:=(by intro h ao f;rw[h] at c e;obtain⟨k,rfl⟩:=qC.1 c;obtain⟨l,rfl⟩:=qC.1 e;rw[ao,f] at a;simpa using a);cases d with
 |st j=>have a:alJ g.toArray=alJ y.toArray:=a;simpa using a
 |pr=>cases b
 |nil=>cases b
 |eK=>cases b
 |_=>exact i bn rfl rfl
def x5 (g:bm (X×aD)) (f:ahb):aj->aD->Prop
 |.val b i,a=>n1 b i a.1 a.2
 |.df d,a=>iQ a.1 d.cells.toList=Y a.2/\cW a.1 d.cells.toList=d
 |.ref id h,a=>eR id f=bq/\∃c b e,aq g id=Y c/\eN c.1 c.2 h b e/\n1 b e a.1 a.2
 |_,_=>b5
mutual
inductive oH (h:bm (X×aD)) (S:ahb):aj->(τ:ai)->τ.den->Prop
 |base {a:aj} {τ:ai} {x:τ.den} (HM:x5 h S a ⟨τ,x⟩):oH h S a τ x
 |hA {a:aj} {τ:ai} {x:τ.den} (hv:oE τ=bp) (HM:oH h S a τ x):oH h S (.hA a) (.ptr .bh τ) (Y x)
 |eA {n:X} {l:bm aj} {τ:ai} {x:τ.den} (DK:vG h S l τ x):oH h S (.eA n l) (.fn n τ) x
inductive vG (h:bm (X×aD)) (S:ahb):bm aj->(τ:ai)->τ.den->Prop
 |nil:vG h S [] .nil ()
 |cons {a:aj} {l:bm aj} {τ υ:ai} {x:τ.den} {y:υ.den} (hv:oE τ=bp) (HM:oH h S a τ x) (DK:vG h S l υ y):vG h S (a::l) (.pr τ υ) (x,y)
end
def Rx (b:bm (X×aD)) (f:ahb):aj->hI->Prop
 |av,.v a=>x5 b f av a
 |.ref id [],.m a _=>aq b id=Y a/\a.1.fY=bp/\rK a.1=bp
 |.ref id [],.o a=>aq b id=Y a
 |.eA p d,.c l q=>p=l/\iB (λj a=>oH b f j a.1 a.2) d q
 |.df e,.o a=>e=.slice bo 0 0/\∃t,a=⟨.osl t,[]⟩
 |.df e,.n=>e=.slice bo 0 0
 |.view id [] h g,.w i r d k _=>aq b id=Y ⟨.osl i,r⟩/\(d=h/\k=g)/\h<g/\i.fY=bp
 |_,.s _ _=>True
 |_,_=>b5
def oG (c:bm (X×aD)) (b:ahb):bm aj->bm hI->Prop
 |[],[]=>True
 |a::as,d::e=>Rx c b a d/\oG c b as e
 |_,_=>b5
def gv:bm aj->bm hI->ahb
 |.ref id []::as,.m _ _::a=>id::gv as a
 |.ref id []::as,.o _::a=>id::gv as a
 |.view id [] _ _::as,.w _ _ _ _ _::a=>id::gv as a
 |_::as,_::a=>gv as a
 |_,_=>[]
def mB:bm aj->bm hI->ahb
 |.ref id []::as,.m _ _::a=>id::mB as a
 |.view id [] _ _::as,.w _ _ _ _ _::a=>id::mB as a
 |_::as,_::a=>mB as a
 |_,_=>[]
def j8:bm aj->bm hI->bm (X×aD)
 |.ref id []::as,.m b c::a=>(id,⟨b.1,c⟩)::j8 as a
 |.view id [] _ _::as,.w e _ _ _ d::a=>(id,⟨.osl e,d⟩)::j8 as a
 |_::as,_::a=>j8 as a
 |_,_=>[]
def rA (a:X) (c:bA) (b:X):X:=bif c then a else 1000*(a+1)+b
def vh (b:X) (c:bA):X->bm aD->bm aj
 |_,[]=>[]
 |j,a::d=>(bif a.1.pure then .val a.1 a.2 else .ref (rA b c j) [])::vh b c (j+1) d
def i5 (a:X) (b:bA):X->bm aD->bm (X×aD)
 |_,[]=>[]
 |j,d::c=>bif d.1.pure then i5 a b (j+1) c else(rA a b j,d)::i5 a b (j+1) c
def vg (a:X):bm aD->aj
 |[t]=>bif t.1.pure then .val t.1 t.2 else .ref a []
 |l=>.ff (vh a bq 0 l)
def iW:bm aD->bA
 |[_]=>bp
 |_=>bq
def jz:ahb->bA
 |[]=>bp
 |a::b=>!(eR a b)&&jz b
theorem jz.ok:∀{c:ahb},jz c=bp->c.Nodup
 |[],_=>List.nodup_nil
 |a::e,b=>by simp only[jz,cC,tv] at b;exact jZ.2 ⟨(λd=>by rw[hd.2 d] at b;cases b.1),jz.ok b.2⟩
def Ti (c:X) (st:aM) (b:bm aj) (a:bm hI) (d:bm aD):aM:=
 ⟨(c,vg c d)::kill (gv b a) (xi (mB b a)) st.g,(j8 b a++i5 c (iW d) 0 d)++del (gv b a) st.h⟩
theorem aS.fY {I G B':X->Prop} {w:bD}:∀{τ:ai} {f:ag5} {b:τ.den} {g:ahb},τ.fY=bp->aS (bf I G) w τ f b g->aS (bf I B') w τ f b g:=by
 intro τ
 induction τ with
 |a6 o m h=>
  intro f b g c a;cases o
  ·obtain⟨j,r,s,ax,d,k,l⟩:=a;refine⟨j,r,s,ax,d,k,l.imp id ?_⟩;rintro⟨e,i,N,v,P⟩;refine⟨e,i,N,v,λp D F=>?_⟩;obtain⟨n,H,J,K⟩:=P p D F;exact⟨n,H,J,h (by simpa only[ai.fY] using c) K⟩
  grind [ai.fY]
 |ptr o m h=>
  intro f b g c a;cases o
  ·obtain⟨j,ax⟩:=a;refine⟨j,?_⟩;cases b with
   |none=>exact ax
   |some D=>
    obtain⟨e,i,n,z,A,B,aE,C⟩:=ax;exact⟨e,i,n,z,A,B,aE,h (by grind [ai.fY]) C⟩
  grind [ai.fY]
 |osl m h=>
  intro f b g c a;obtain⟨r,s,ax,d⟩:=a;refine⟨r,s,ax,d.imp id ?_⟩;rintro⟨e,i,M,z,A,B,aE,C,am⟩;refine⟨e,i,M,z,A,B,aE,C,λp D E F V=>?_⟩;grind [ai.fY]
 |optr m h=>
  intro f b g c a;obtain⟨e,i,E,n,ax,d,k,l,y,S⟩:=a;exact⟨e,i,E,n,ax,d,k,l,y,h (by grind [ai.fY]) S⟩
 |st m h=>intro f b g c a;exact h (by grind [ai.fY]) a
 |mp m h=>
  intro f b g c a;cases b with
  |none=>exact a
  |some x=>
   obtain⟨e,t,q,ax,d,u,k,l,y⟩:=a;refine⟨e,t,q,ax,d,u,k,l,λp x O=>?_⟩;grind [ai.fY]
 |fw o m h=>
  intro f b g c a;cases o
  ·cases b with
   |none=>exact a
   |some x=>
    obtain⟨e,t,q,ax,d,u,v,k,l,y⟩:=a;refine⟨e,t,q,ax,d,u,v,k,l,λp x O=>?_⟩;grind [ai.fY]
  grind [ai.fY]
 |fn ad m h=>
  intro f b g c a;obtain⟨j,T,ax,d⟩:=a;exact⟨j,T,ax,h (by simpa only[ai.fY] using c) d⟩
 |pr U e Q R=>
  intro f b g c a;simp only[ai.fY,cC] at c;obtain⟨L,f2,j,ax,d⟩:=a;exact⟨L,f2,j,Q c.1 ax,R c.2 d⟩
 |_=>intro f b g c a;exact a
theorem NN {e f:Type} (c:e->f):∀(b:bm (X×e)) (a:X),aq (b.map λd=>(d.1,c d.2)) a=(aq b a).map c
 |[],_=>rfl
 |(g,v)::b,a=>by rw[h7,dg,dg,NN c b a];grind
abbrev Bb:=aD×ag5×ahb
def g4 (rt:X->ag5):bm aj->bm hI->ev->bm (X×Bb)
 |.ref id []::as,.m d e::a,c::b=>(id,(⟨d.1,e⟩,rt id,c))::g4 rt as a b
 |.view id [] _ _::as,.w g _ _ _ f::a,c::b=>(id,(⟨.osl g,f⟩,rt id,c))::g4 rt as a b
 |_::as,_::a,_::b=>g4 rt as a b
 |_,_,_=>[]
def k4 (a:X) (b:bA):X->bm aD->er->ev->bm (X×Bb)
 |j,f::e,g::c,h::d=>bif f.1.pure then k4 a b (j+1) e c d else(rA a b j,(f,g,h))::k4 a b (j+1) e c d
 |_,_,_,_=>[]
theorem Pk {rt:X->ag5}:∀{as:bm aj} {bs:bm hI} {gs:ev},gs.length=bs.length->(g4 rt as bs gs).map (λf=>(f.1,f.2.1))=j8 as bs
 |[],bs,gs,_=>by cases bs<;>cases gs<;>rfl
 |a::as,[],gs,e=>by cases gs with
  |nil=>cases a<;>first|rfl|(rename_i id b;cases b<;>rfl)|(rename_i id b h g;cases b<;>rfl)
  |cons=>cases e
 |a::as,c::bs,[],e=>by cases e
 |a::as,c::bs,i::gs,e=>by
  have d:=Pk (rt:=rt) (as:=as) (bs:=bs) (gs:=gs) (by grind);cases a with
  |ref id b=>cases b with
   |nil=>cases c<;>simp only[g4,j8,h7,d]
   |cons=>cases c<;>simp only[g4,j8,d]
  |view id b h g=>cases b with
   |nil=>cases c<;>simp only[g4,j8,h7,d]
   |cons=>cases c<;>simp only[g4,j8,d]
  |_=>cases c<;>simp only[g4,j8,d]
theorem EL {d:X} {s:bA}:∀{j:X} {res:bm aD} {cs:er} {hs:ev},cs.length=res.length->hs.length=res.length->(k4 d s j res cs hs).map (λe=>(e.1,e.2.1))=i5 d s j res
 |j,[],cs,hs,a,b=>by cases cs<;>cases hs<;>simp[k4,i5]
 |j,f::c,[],hs,a,b=>by cases a
 |j,f::c,g::cs,[],a,b=>by cases b
 |j,f::c,g::cs,h::hs,a,b=>by have i:=EL (d:=d) (s:=s) (j:=j+1) (res:=c) (cs:=cs) (hs:=hs) (by grind) (by grind);simp only[k4,i5];grind
section
variable {C:eZ} {st:aM} {A:ag3} {w w':bD} {I I' B':X->Prop} {rt:X->ag5} {fp:X->ahb}
theorem Pl (D:cM C st A w I rt fp) {S:ahb}:∀{avs:bm aj} {t:ag5} {args:bm hI} {gs:ev},iB (cP (bf I C.B) w st.h rt fp) avs t->oG st.h S avs args->mn (x7 I' B' w') args t gs->∀a∈g4 rt avs args gs,aS (bf I' C.B) w' a.2.1.1 a.2.2.1 a.2.1.2 a.2.2.2/\a.2.2.1=rt a.1/\a.1∈gv avs args/\∃g,aq st.h a.1=Y g/\a.2.1.1=g.1
 |[],t,args,gs,l,p,q,a,b=>by cases args<;>cases gs<;>cases b
 |x::i,t,[],gs,l,p,q,a,b=>by cases x<;>exact p.elim
 |x::i,[],d::u,gs,l,p,q,a,b=>l.elim
 |x::i,v::t,d::u,[],l,p,q,a,b=>q.elim
 |av::i,v::t,d::u,ad::gs,l,p,q,a,b=>by
  obtain⟨M,am⟩:=l;obtain⟨J,an⟩:=p;obtain⟨K,ap⟩:=q;have a0:=Pl D (S:=S) (avs:=i) (args:=u) (gs:=gs) am an ap;have e:a∈g4 rt i u gs->aS (bf I' C.B) w' a.2.1.1 a.2.2.1 a.2.1.2 a.2.2.2/\a.2.2.1=rt a.1/\a.1∈gv (av::i) (d::u)/\∃g,aq st.h a.1=Y g/\a.2.1.1=g.1:=by
   intro b;obtain⟨ax,P,r,G⟩:=a0 a b;refine⟨ax,P,?_,G⟩;cases av with
   |ref id f=>cases f<;>cases d<;>simp only[gv]<;>first|exact g6 _ r|exact r
   |view id f O L=>cases f<;>cases d<;>simp only[gv]<;>first|exact g6 _ r|exact r
   |_=>cases d<;>exact r
  cases av with
  |ref id f=>
   cases f with
   |cons s f=>exact e (by cases d<;>exact b)
   |nil=>
    cases d with
    |v g=>exact e b
    |o g=>exact e b
    |c n d1=>exact e b
    |n=>exact e b
    |s cs a3=>exact e b
    |w bs i O L Q=>exact e b
    |m g d2=>
     simp only[g4,fR] at b;rcases b with rfl|b
     ·obtain⟨j,N,F⟩:=J;obtain⟨ci,k,z⟩:=K;cases M with|ref y E=>
      rw[j] at y;cases y;obtain⟨rfl,rfl,rfl⟩:=aX.gz.1 E;have:=abS F (D.tree id _ j).1.len z.len k;subst this;exact⟨z.fY N,bn,by simp[gv],g,j,bn⟩
     grind
  |view id f O L=>
   cases f with
   |cons s f=>exact e (by cases d<;>exact b)
   |nil=>
    cases d with
    |w bs i a3 k Q=>
     simp only[g4,fR] at b;rcases b with rfl|b
     ·obtain⟨j,⟨rfl,rfl⟩,N,F⟩:=J;obtain⟨d,o,T,k,cv,z⟩:=K;cases M with
      |ma=>omega
      |view y E ax P r=>
      rename_i d0 d3 c1 R bl a4 U;rw[j] at y;cases y;obtain⟨ao,co,V⟩:=aX.gz.1 E;simp only[ai.osl.injEq] at ao;subst ao;obtain⟨bx,ce,G,_⟩:=(D.tree id _ j).1;have H:rt id=[.slice (Y ⟨R,bl,bo⟩) a4 U]:=V;rw[G] at H;simp only[hP,ahm,b8] at H;rw[aw aa] at k;simp only[ahm,eU,ahB,b8] at k;obtain⟨⟨c2,dl⟩,ds,aE⟩:=k;have:rt id=[.slice (Y ⟨d,o,bo⟩) i.length T]:=(by grind);refine⟨?_,bn,by simp[gv],_,j,bn⟩;show aS (bf I' C.B) w' (.osl _) (rt id) Q ad;rw[this];exact z.fY F
     grind
    |_=>exact e b
  |_=>exact e (by cases d<;>exact b)
theorem Pj {x:ahb}:∀{as:bm aj} {r:bm hI} {g:ag5} {e:ev},oG st.h x as r->mn (x7 I' B' w') r g e->((g4 rt as r e).map (λz=>z.2.2.2)).flatten=e.flatten
 |[],[],g,e,f,d=>by cases g<;>cases e<;>first|rfl|exact d.elim
 |[],q::t,g,e,f,d=>f.elim
 |a::as,[],g,e,f,d=>by cases a<;>exact f.elim
 |a::as,q::t,[],e,f,d=>d.elim
 |a::as,q::t,v::g,[],f,d=>d.elim
 |a::as,q::t,v::g,k::e,f,d=>by
  have y:=Pj (as:=as) f.2 d.2;have l:=f.1;have p:=d.1;rw[lQ,<-y];cases q with
  |m u F=>
   cases a with
   |ref id b=>cases b with
    |nil=>grind [air,g4]
    |cons=>exact l.elim
   |_=>exact l.elim
  |w H E C B G=>
   cases a with
   |view id b i j=>cases b with
    |nil=>grind [air,g4]
    |cons=>exact l.elim
   |ref id b=>cases b<;>exact l.elim
   |_=>exact l.elim
  |v u=>
   have:k=[]:=p;subst this;cases a with
   |ref id b=>grind [g4]
   |view id b i j=>grind [g4]
   |_=>simp only[g4,iL]
  |o u=>
   have:k=[]:=p;subst this;cases a with
   |ref id b=>grind [g4]
   |view id b i j=>grind [g4]
   |_=>simp only[g4,iL]
  |n=>
   have:k=[]:=p;subst this;cases a with
   |ref id b=>grind [g4]
   |view id b i j=>grind [g4]
   |_=>simp only[g4,iL]
  |s A i=>
   have:k=[]:=p;subst this;cases a with
   |ref id b=>grind [g4]
   |view id b i j=>grind [g4]
   |_=>simp only[g4,iL]
  |c n D=>
   have:k=[]:=p;subst this;cases a with
   |ref id b=>grind [g4]
   |view id b i j=>grind [g4]
   |_=>simp only[g4,iL]
theorem PO {I:X->Prop}:∀{f:bm aD} {c:ag5} {b:ev},mn (Be I w) f c b->∃h:er,h.length=f.length/\b.length=f.length/\c.length=f.length/\∀(e:X) (t:aD) (d:ag5) (a:ahb) (g:Value),f[e]?=Y t->h[e]?=Y d->b[e]?=Y a->c[e]?=Y g->g=cW t.1 d/\aS (bf I (λ_=>b5)) w t.1 d t.2 a
 |[],c,b,a=>by cases c<;>cases b<;>first|exact⟨[],bn,bn,bn,λe t d a g r=>by grind⟩|exact a.elim
 |t::i,[],b,a=>a.elim
 |t::i,g::c,[],a=>a.elim
 |t::i,g::c,p::b,a=>by obtain⟨⟨d,l,u⟩,j⟩:=a;obtain⟨h,v,x,y,s⟩:=PO j;refine⟨d::h,by grind,by grind,by grind,λe z k q A ao m n o=>?_⟩;grind
theorem PQ {m:X} {n:bA}:∀{j:X} {i:bm aD} {c:er} {d:ev},c.length=i.length->d.length=i.length->∀a∈k4 m n j i c d,∃e:X,i[e]?=Y a.2.1/\c[e]?=Y a.2.2.1/\d[e]?=Y a.2.2.2
 |j,[],c,d,f,g,a,b=>by cases c<;>cases d<;>simp[k4] at b
 |j,k::h,[],d,f,g,a,b=>by cases f
 |j,k::h,l::c,[],f,g,a,b=>by cases g
 |j,k::h,l::c,q::d,f,g,a,b=>by
  simp only[k4] at b;have s:a∈k4 m n (j+1) h c d->∃e,(k::h)[e]?=Y a.2.1/\(l::c)[e]?=Y a.2.2.1/\(q::d)[e]?=Y a.2.2.2:=λb=>(by obtain⟨e,ao,o,p⟩:=PQ (by grind) (by grind) a b;exact⟨e+1,by rw[vP];exact ao,by rw[vP];exact o,by rw[vP];exact p⟩);cases r:k.1.pure
  ·rw[r] at b;simp only[bO,fR] at b;rcases b with rfl|b
   ·exact⟨0,bn,bn,bn⟩
   grind
  grind
theorem PP {d:X} {s:bA}:∀{j:X} {res:bm aD} {cs:er} {hs:ev},((k4 d s j res cs hs).map (λe=>e.2.2.2)).flatten.Sublist hs.flatten
 |j,[],cs,hs=>by simp[k4]
 |j,b::a,[],hs=>by simp[k4]
 |j,b::a,c::cs,[]=>by simp[k4]
 |j,b::a,c::cs,f::hs=>by have g:=PP (d:=d) (s:=s) (j:=j+1) (res:=a) (cs:=cs) (hs:=hs);simp only[k4];grind
theorem Ld (n:cM C st A w I rt fp) (f:∀a,C.B a->B' a) (m:∀id P,aq st.h id=Y P->eR id k=bq->∀a∈fp id,B' a) (c:cP (bf I C.B) w st.h rt fp V R) (b:x5 st.h k V P):∃e,R=cW P.1 e/\aS (bf I B') w P.1 e P.2 []:=by
 cases V with
 |val l j=>
  have b:n1 l j P.1 P.2:=b;cases c with|val u=>
  exact⟨_,b.st _,b.rep f u ac⟩
 |df D=>
  obtain⟨ax,y⟩:=b;cases c;grind [pS]
 |ref id x=>
  obtain⟨o,z,l,j,d,t,i⟩:=b;cases c with|ref g r=>
  rw[d] at g;cases g;obtain⟨rfl,v,s,_,q⟩:=n.kY d t r;exact⟨_,i.st _,i.rep f s (λa p=>m id _ d o a (q a p))⟩
 |_=>exact b.elim
mutual
theorem F4 (j:cM C st A w I rt fp) {m:ahb} (g:∀a,C.B a->B' a) (i:∀id J,aq st.h id=Y J->eR id m=bq->∀a∈fp id,B' a):∀{n:aj} {d:ai} {u:d.den},oH st.h m n d u->∀{t:Value},cP (bf I C.B) w st.h rt fp n t->∃e,t=cW d e/\aS (bf I B') w d e u []
 |_,_,_,.base k,_,b=>Ld j g i b k
 |_,_,_,.hA G k,_,b=>by
  cases b with|hA E F K f=>
  rename_i l a;obtain⟨e,ao,p⟩:=F4 j g i k f;obtain⟨o,y⟩:=o6.one G;have c:=p.len;rw[o] at c;obtain⟨x,rfl⟩:=qC.1 c;rw[y] at ao;have ao:l=x:=ao;subst ao;have D:fq w a 0 [l]:=λr M q=>by
   cases r with
   |zero=>cases q;exact F
   |succ r=>cases q
  exact⟨[.pointer (Y ⟨a,0,bo⟩)],bn,bn,a,0,[l],bn,E,o.symm,D,p⟩
 |_,_,_,.eA c,_,b=>by
  cases b with|eA z f=>
  rename_i s;exact⟨[.func (.func _) #[] s],bn,bn,s.toList,bn,Lv j g i c (yy (by simpa using z) (λH v a ax L=>f H v a ax (by grind)))⟩
theorem Lv (k:cM C st A w I rt fp) {f:ahb} (i:∀b,C.B b->B' b) (j:∀id x,aq st.h id=Y x->eR id f=bq->∀b∈fp id,B' b):∀{m:bm aj} {e:ai} {n:e.den},vG st.h f m e n->∀{a:ag5},iB (cP (bf I C.B) w st.h rt fp) m a->aS (bf I B') w e a n []
 |_,_,_,.nil,a,c=>by
  cases a with
  |nil=>exact⟨bn,bn⟩
  |cons=>exact c.elim
 |_,_,_,.cons v t u,a,c=>by
  cases a with
  |nil=>exact c.elim
  |cons y a=>
   obtain⟨q,r⟩:=c;obtain⟨z,ao,g⟩:=F4 k i j t q;have s:=Lv k i j u r;obtain⟨d,p⟩:=o6.one v;have l:=g.len;rw[d] at l;obtain⟨o,rfl⟩:=qC.1 l;rw[p] at ao;have ao:y=o:=ao;subst ao;exact⟨[],[],bn,by rw[d];exact g,by rw[d];exact s⟩
end
def LA (j:cM C st A w I rt fp) {d:ahb} (g:∀b,C.B b->B' b) (i:∀id c,aq st.h id=Y c->eR id d=bq->∀b∈fp id,B' b):∀{e:bm aj} {l:ag5} {k:bm aD},iB (cP (bf I C.B) w st.h rt fp) e l->iB (λm c=>oH st.h d m c.1 c.2) e k->iB (x9 I B' w) k l
 |[],[],[],_,_=>trivial
 |[],_::_,_,a,_=>a.elim
 |_::_,[],_,a,_=>a.elim
 |[],_,_::_,_,a=>a.elim
 |_::_,_,[],_,a=>a.elim
 |_::_,_::_,_::_,a,f=>⟨F4 j g i f.1 a.1,LA j g i a.2 f.2⟩
theorem Lf (r:cM C st A w I rt fp) {S:ahb} (E:∀d,C.B d->B' d) (H:∀id q,aq st.h id=Y q->eR id S=bq->∀d∈fp id,B' d):∀{F:bm aj} {t:ag5} {args:bm hI},iB (cP (bf I C.B) w st.h rt fp) F t->oG st.h S F args->∃e,mn (x6 I B' w) args t e/\e.flatten=((gv F args).map fp).flatten
 |[],t,args,i,g=>by cases args with
  |nil=>cases t with
   |nil=>exact⟨[],trivial,bn⟩
   |cons=>exact i.elim
  |cons=>exact g.elim
 |x::l,t,[],i,g=>by cases x<;>exact g.elim
 |x::l,[],d::u,i,g=>i.elim
 |av::l,v::t,d::u,i,g=>by
  obtain⟨p,i⟩:=i;obtain⟨a,ad⟩:=g;obtain⟨e,f,V⟩:=Lf r E H i ad;cases d with
  |v q=>
   have D:gv (av::l) (.v q::u)=gv l u:=by cases av<;>first|rfl|(rename_i id b;cases b<;>rfl)|(rename_i id b z D;cases b<;>rfl)
   have a:x5 st.h S av q:=(by cases av<;>exact a);exact⟨[]::e,⟨⟨bn,Ld r E H p a⟩,f⟩,by grind⟩
  |s U z=>
   have D:gv (av::l) (.s U z::u)=gv l u:=by cases av<;>first|rfl|(rename_i id b;cases b<;>rfl)|(rename_i id b z D;cases b<;>rfl)
   exact⟨[]::e,⟨bn,f⟩,by grind⟩
  |n=>
   cases av with
   |df Q=>
    obtain rfl:Q=.slice none 0 0:=a;cases p;exact⟨[]::e,⟨⟨bn,bn⟩,f⟩,by grind [gv]⟩
   |ref id b=>cases b<;>exact a.elim
   |_=>exact a.elim
  |c n d2=>
   cases av with
   |eA m z=>
    obtain⟨rfl,a⟩:=a;cases p with|eA cs am=>
    rename_i a4;refine⟨[]::e,⟨⟨bn,a4.toList,bn,LA r E H (yy aa (λap R d f V=>am ap R d f (by grind))) a⟩,f⟩,by grind [gv]⟩
   |ref id b=>cases b<;>exact a.elim
   |_=>exact a.elim
  |w bl l c1 co d4=>
   cases av with
   |view id b z D=>cases b with
    |nil=>
     obtain⟨k,⟨rfl,rfl⟩,J,a0⟩:=a;cases p with
     |ma=>omega
     |view j y ax dl ds=>
     rename_i d1 d5 c2 K P O L;rw[k] at j;cases j;obtain⟨ao,ci,T⟩:=aX.gz.1 y;simp only[ai.osl.injEq] at ao;subst ao;have N:=(r.tree id _ k).1;have G:rt id=[.slice (Y ⟨K,P,bo⟩) O L]:=T;have an:=N;obtain⟨bx,ce,a3,d0⟩:=an;rw[a3] at G;simp only[hP,ahm,b8] at G;have cv:l.length=O:=G.2.1;refine⟨fp id::e,⟨⟨K,P,L,?_,⟨J,aa,aa⟩,?_⟩,f⟩,by grind [air,gv]⟩
     ·rw[aw aa]
     have:=aS.fY (τ:=.osl bl) (B':=B') a0 N;grind
    |cons=>exact a.elim
   |ref id b=>cases b<;>exact a.elim
   |_=>exact a.elim
  |m q d3=>
   cases av with
   |ref id b=>cases b with
    |nil=>
     obtain⟨k,J,_⟩:=a;cases p with|ref j y=>
     rw[k] at j;cases j;obtain⟨rfl,rfl,rfl⟩:=aX.gz.1 y;exact⟨fp id::e,⟨⟨rt id,bn,(r.tree id _ k).1.fY J⟩,f⟩,by grind [air,gv]⟩
    |cons=>exact a.elim
   |_=>exact a.elim
  |o q=>
   cases av with
   |ref id b=>cases b with
    |nil=>
     have k:aq st.h id=Y q:=a;cases p with|ref j y=>
     rw[k] at j;cases j;obtain⟨rfl,rfl,rfl⟩:=aX.gz.1 y;refine⟨fp id::e,⟨⟨rt id,bn,(r.tree id _ k).1.mono (λm d M=>⟨?_,c5.refl w d⟩) (λd _=>c5.refl w d)⟩,f⟩,by grind [air,gv]⟩;cases m
     ·exact M
     exact M.imp (λg=>g) (E d)
    |cons=>exact a.elim
   |df Q=>
    obtain⟨rfl,bs,rfl⟩:=a;cases p;exact⟨[]::e,⟨⟨[.slice bo 0 0],bn,bo,0,bn,.inl ⟨bn,bn,bn,bn⟩⟩,f⟩,by grind [gv]⟩
   |_=>exact a.elim
end
end
end Go.jm
end
