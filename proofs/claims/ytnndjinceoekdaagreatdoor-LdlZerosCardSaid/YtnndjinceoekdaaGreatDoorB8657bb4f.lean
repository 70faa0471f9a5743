/-
  Parts of the proof: Fw1, Fw2, Fw3, Fw4, Fw5, Fw6, Fw7, Fw8, Fw40, Fw41, Fw9, Fw10, Fw11, Fw12, Fw13, Fw14, Fw15, Fw16, Fw17, Fw18, Fw19, Fw20: the framework (Fw), pure forms (Dn), plain laws (Pl, Th), calls of functions (Ok).
-/
import Derived.Laws.AppendOwn
import Derived.ArgAppend
import Derived.Laws.IdiomCopy
import Derived.Laws.Cells
import Derived.Laws.MakeOwn
import Derived.Calls
import Derived.Orders
import Derived.Laws.Entries
import Derived.Maps.RangeRun

set_option linter.all false
set_option maxHeartbeats 1000000
open Go renaming TypeId->bF,Operand->bM,World->bD,MapEntry->cn,Exit->b5,IntKind->cu,undef->bW,Program->b0,Field->aio,sizeOf->aiM,typeInfo->aiw,run_underlying->b8,Oper->bR,execOp->bL,eqGuard->aiV,binOp->aid,resolve->aiG,builtin->aiW,asIntOf->ai7,madeCells->ak9,zeroValue->aih,newRow->aiH
open _root_ renaming Nat->X,Array->bU,Option->bv,DecidableEq->ak4,List->bm,Int->Z,Bool->bA,Unit->bt,rfl->bn,and_true->b9,False->b6,true_and->ajo,if_true->cf,congrArg->b3,cond_false->bP,cond_true->bG,beq_self_eq_true->aix,decide_eq_true->ah3,decide_eq_false->aiy,decide_eq_true_eq->aip,dif_pos->aja
open Option renaming some->Y,none->bo,isSome_iff_exists->ak5,isSome_none->alc,isSome_some->akt
open Bool renaming true->bp,false->bq
open Go.World renaming cell?_of_block->al9,frozen?_of_block->ama,cell?->ai9,frozen?->aks,setCells->akz,setCell->aml,cell?_setCells_in->ajW,cell?_setCells_out->akA,frozen?_setCells->alh
open Go.MapEntry renaming mk->akj
open Go.Value renaming oneCell'->aim,int->aie,map->ajt,agg->amm
open List renaming mem_cons_of_mem->akk,mem_flatten->ajn,mem_of_getElem?->aig,getElem?_take->akm,count_cons->akn,take_take->amb,all_eq_true->ai5,getElem?_eq_some_iff->aiF,drop_drop->ajM,append_eq_nil_iff->ak7,replicate->bJ,range->bI,pairwise_cons->ajR,filter_eq_self->ajq,map_congr_left->aii,getElem?_inj->aku,getElem?_toArray->alf,map_toArray->akw,map_nil->ajb,foldlM_cons->amh,any_eq_true->ami,getElem?_eq_getElem->bS,mem_append_right->akB,take_append_drop->ajw,getElem_mem->b7,flatten_cons->ajc
open Go.Value.pointer renaming injEq->ai4
open Go.Addr.mk renaming injEq->ain
open Go.Value.slice renaming injEq->ah7
open Iff renaming rfl->akl
open Nat renaming min_self->amc,beq->bH,eq_of_beq_eq_true->aiK,ble->b2,add_comm->ajQ,blt->cb,beq_refl->ajT,div_lt_iff_lt_mul->akx,mod_lt->aju,div_add_mod->aky,add_assoc->ajv
open Option.some renaming inj->aiL
open ByteArray renaming empty->ako
open Go.Sem renaming run_bind->bY,run_pure->cw
open Go.Result renaming andThen_ok->b1
open Go.Addr renaming add_lit->aiU
open Go.Oper renaming wp->aic
open BitVec renaming ofInt->cg
open Decidable renaming decide->br
open Go.Op renaming equalIn->ai6,equal->ajN,maxDepth->ajO,unary->alg
open Go.Builtin renaming len_->ak6,delete_->ale,append_->ajU,firstCells->amj,lenOf->amk,zeroCells->ajV
open Go.Instr renaming loadAt->amd,sureAddr->ajp,sliceBounds->ajP,sliceBound->ak8,fill->ame,box->akp,findNow->ajr,sameNow->alb,findKey->ajS,checkKey->amf,mapUpdate->aiN,keyThatStays->ajs,sameBits->ald,lookup->akv
open Array renaming map->akq,mapM_eq_mapM_toList->ala,eraseIdxIfInBounds->amg,getD_eq_getD_getElem?->ali
open List.Pairwise renaming nil->akr,cons->ant
open Pure renaming pure->ai8
open Go.Region renaming wanted->akC
theorem aa{p:Prop}(h:p:=by omega):p:=h
theorem ab{p:Prop}(h:p:=by decide):p:=h
theorem ac{p:Prop}(h:p:=by simp):p:=h
abbrev au:=@if_pos
abbrev ax:=@if_neg
abbrev aC:=@Option.bind_some
abbrev ba:=@List.getElem?_eq_getElem
abbrev bc:=@Nat.le_refl
abbrev cC:=@Bool.and_eq_true
abbrev cO:=@Nat.lt_or_ge
abbrev cR:=@List.getElem_mem
abbrev c8:=@Nat.zero_le
abbrev eD:=@Nat.le_trans
abbrev eO:=@Option.bind_eq_some_iff
abbrev eR:=@Option.some.injEq
abbrev eY:=@List.mem_map
abbrev ff:=@List.length_map
abbrev fu:=@Int.le_of_lt
abbrev fv:=@Nat.eq_of_beq_eq_true
abbrev fC:=@Int.toNat_natCast
abbrev fD:=@Option.map_eq_some_iff
abbrev fG:=@List.take_of_length_le
abbrev fR:=@Int.eq_ofNat_of_zero_le
abbrev fU:=@List.length_take
abbrev fV:=@List.mem_cons
abbrev gd:=@List.mem_singleton
abbrev gC:=@Option.some.inj
abbrev gR:=@Bool.not_true
abbrev gT:=@Nat.le_of_ble_eq_true
abbrev gY:=@List.all_eq_true
abbrev hq:=@List.mem_filter
abbrev ht:=@List.mem_iff_getElem
abbrev hF:=@List.getElem?_eq_some_iff
abbrev hG:=@Nat.min_eq_left
abbrev hL:=@List.cons.injEq
abbrev hM:=@List.ext_getElem?
abbrev hN:=@List.take_add_one
abbrev hO:=@List.take_length
abbrev hX:=@List.mem_append
abbrev hY:=@List.mem_cons_of_mem
abbrev h4:=@List.pairwise_iff_getElem
abbrev h5:=@Nat.mul_le_mul_right
abbrev ia:=@List.map_congr_left
abbrev ie:=@List.map_cons
abbrev ig:=@List.mem_range
abbrev ij:=@Prod.mk.injEq
abbrev iu:=@List.nil_append
abbrev iV:=@Int.lt_or_le
abbrev iY:=@List.append_assoc
abbrev iZ:=@List.length_cons
abbrev i4:=@List.mem_of_getElem?
abbrev i5:=@List.range_succ
abbrev i6:=@Nat.lt_of_lt_of_le
abbrev i7:=@Nat.pow_add
abbrev i9:=@Option.map_some
abbrev je:=@Bool.or_eq_true
abbrev jg:=@List.getElem?_map
abbrev jh:=@List.map_append
abbrev jy:=@Nat.two_pow_pos
abbrev jO:=@Int.mul_le_mul_of_nonneg_left
abbrev jQ:=@List.length_append
abbrev jR:=@List.nodup_append
abbrev j5:=@Int.mul_assoc
abbrev ko:=@List.nodup_cons
abbrev kp:=@List.take_append_drop
abbrev kQ:=@Int.mul_comm
abbrev kR:=@List.length_filter_le
abbrev lq:=@List.mem_append_right
abbrev lu:=@Nat.add_mul
abbrev lv:=@Nat.one_mul
abbrev lT:=@Int.emod_add_mul_ediv
abbrev lU:=@Int.pow_add
abbrev lV:=@List.drop_zero
abbrev lW:=@List.flatten_cons
abbrev lX:=@List.getD_eq_getElem?_getD
abbrev lY:=@List.mem_flatten
abbrev mh:=@Bool.not_false
abbrev mi:=@Int.ediv_nonneg
abbrev mM:=@Int.pow_pos
abbrev mN:=@List.append_nil
abbrev mO:=@List.filter_eq_self
abbrev mP:=@List.length_range
abbrev mQ:=@List.pairwise_cons
abbrev mR:=@Nat.mul_le_mul
abbrev m8:=@Int.mul_le_mul_of_nonneg_right
abbrev m9:=@Int.mul_nonneg
abbrev na:=@List.length_drop
abbrev nb:=@List.mem_cons_self
abbrev nc:=@Nat.add_zero
abbrev nf:=@Nat.zero_add
abbrev nV:=@Int.emod_nonneg
abbrev nW:=@List.cons_append
abbrev nX:=@List.drop_eq_nil_of_le
abbrev nY:=@List.filter_cons
abbrev n0:=@Nat.eq_zero_or_pos
abbrev oI:=@List.length_nil
abbrev oJ:=@List.map_map
abbrev oK:=@List.pairwise_map
abbrev oL:=@Nat.mul_assoc
abbrev oM:=@Nat.sub_self
abbrev po:=@Int.ediv_eq_zero_of_lt
abbrev pp:=@Int.emod_lt_of_pos
abbrev pq:=@Int.zero_mul
abbrev pw:=@List.any_eq_true
abbrev px:=@List.filter_append
abbrev py:=@List.filter_congr
abbrev pz:=@List.getElem?_append_right
abbrev pA:=@List.getElem?_drop
abbrev pB:=@List.length_singleton
abbrev qo:=@Array.mem_append_right
abbrev qs:=@Int.mul_pos
abbrev qt:=@List.drop_drop
abbrev qu:=@List.drop_of_length_le
abbrev qv:=@List.eq_nil_of_length_eq_zero
abbrev qw:=@List.flatMap_append
abbrev qx:=@List.getElem?_append_left
abbrev qy:=@List.getElem?_cons_zero
abbrev qz:=@List.getElem?_eq_none
abbrev qA:=@List.getElem_inj
abbrev qB:=@List.length_eq_one_iff
abbrev qC:=@List.length_replicate
abbrev qD:=@Nat.mul_comm
abbrev rR:=@Array.getElem?_eq_some_iff
abbrev rU:=@Int.ediv_lt_of_lt_mul
abbrev rV:=@Int.emod_eq_of_lt
abbrev rW:=@Int.mul_lt_mul_of_pos_right
abbrev rX:=@List.all_cons
abbrev rY:=@List.drop_append_of_le_length
abbrev rZ:=@List.getElem?_take_of_lt
abbrev r0:=@List.map_singleton
abbrev r1:=@List.mem_append_left
abbrev r2:=@Nat.add_sub_cancel_left
abbrev r3:=@Nat.div_add_mod
abbrev r4:=@Nat.lt_trichotomy
abbrev r5:=@Option.getD_some
abbrev tB:=@Bool.and_eq_true_iff
abbrev tC:=@Bool.not_eq_true'
abbrev tG:=@Int.ediv_ediv_of_nonneg
abbrev tH:=@Int.ediv_le_self
abbrev tI:=@List.Pairwise.imp_of_mem
abbrev tJ:=@List.any_eq_false
abbrev tK:=@List.count_append
abbrev tL:=@List.filter_sublist
abbrev tM:=@List.perm_iff_count
abbrev tN:=@List.size_toArray
abbrev tO:=@List.take_append_of_le_length
abbrev tP:=@Nat.lt_succ_self
abbrev tQ:=@Nat.pow_le_pow_right
abbrev tR:=@Nat.pow_succ
abbrev vL:=@Array.replicate_succ
abbrev vM:=@Array.replicate_zero
abbrev vN:=@Bool.eq_iff_iff
abbrev vS:=@Int.add_mul_ediv_left
abbrev vT:=@Int.natAbs_mul
abbrev vU:=@List.append_toArray
abbrev vV:=@List.drop_eq_getElem_cons
abbrev vW:=@List.getElem?_cons_succ
abbrev vX:=@List.getElem?_set
abbrev vY:=@List.mem_of_mem_take
abbrev vZ:=@List.nodup_range
abbrev v2:=@List.push_toArray
abbrev yi:=@Int.add_mul_emod_self_left
abbrev yj:=@Int.natCast_mul
abbrev yk:=@List.append_of_mem
abbrev yl:=@List.ext_getElem
abbrev ym:=@List.flatten_append
abbrev yn:=@List.getElem_set_ne
abbrev yo:=@List.length_pos_iff
abbrev yp:=@List.mem_take_iff_getElem
abbrev yq:=@List.mem_toArray
abbrev yr:=@List.singleton_append
abbrev yt:=@Nat.div_le_self
abbrev Ba:=@Array.getElem?_eq_getElem
abbrev Bb:=@Array.getElem?_toList
abbrev Bc:=@Bool.or_eq_true_iff
abbrev Bg:=@Int.lt_of_mul_lt_mul_left
abbrev Bh:=@List.filter_filter
abbrev Bi:=@List.getElem?_range
abbrev Bj:=@List.takeWhile_append_dropWhile
abbrev FK:=@Int.tdiv_eq_ediv_of_nonneg
abbrev FL:=@Int.tmod_eq_emod_of_nonneg
abbrev FQ:=@List.filter_cons_of_neg
abbrev FR:=@List.filter_cons_of_pos
abbrev di:=List (Int×(Int×(List Int×(Int×Unit))))×(Option (List (Int×(Int×(List Int×(Int×Unit)))))×Option (List Int)×Unit)×Unit
abbrev dk:=(List (List Int)×Unit)×List (Int×(Int×(List Int×(Int×Unit))))×Unit
abbrev dm:=List (Int×(Int×(List Int×(Int×Unit))))×(Option Int×Unit)×Unit
abbrev dn:=(List (List Int)×Unit)×(List (List Int)×Unit)×List Int×Unit
abbrev dp:=(Int×List Int×Unit)⊕((List Int×Unit)⊕(List Int×Bool×Unit))
abbrev dq:=(List Int×Unit)⊕((Int×List Int×Unit)⊕(Unit⊕(Int×Unit)))
abbrev dr:=Int×(List (List Int)×Unit)×(List (List Int)×Unit)×Unit
abbrev dt:=(List (List Int)×Unit)×(List (List Int)×Unit)×Unit
abbrev du:=List Int×(Option (List (List Int)×Unit)×Unit)×Unit
abbrev dv:=(Int×Unit)⊕(Unit⊕((Int×Unit)⊕(Unit⊕(Int×Unit))))
abbrev dw:=Int×(List (List Int)×Unit)×List (List Bool)×Unit
abbrev dx:=List (Int×(Int×(List Int×(Int×Unit))))×Int×Unit
abbrev dy:=(List (List Int)×Unit)×List (List Bool)×Unit
abbrev dz:=Int×(List (List Bool)×(List Bool×Unit))×Unit
abbrev dA:=Unit⊕(Unit⊕((Int×Unit)⊕(Unit⊕(Int×Unit))))
abbrev dB:=(List (List Bool)×(List Bool×Unit))×Unit
abbrev dC:=(Int×List Bool×Unit)⊕(Unit⊕(Bool×Unit))
abbrev dD:=List (Int×(Int×(List Int×(Int×Unit))))
abbrev dE:=(Int×Int×Unit)⊕((Int×Unit)⊕(Int×Unit))
abbrev dG:=(List (List Int)×Unit)×List Int×Unit
abbrev dH:=(List Int×Unit)⊕(List Int×Bool×Unit)
abbrev dI:=Unit⊕((Int×Unit)⊕(Unit⊕(Int×Unit)))
abbrev dJ:=(Int×List Int×Unit)⊕(List Int×Unit)
abbrev dL:=(Int×Int×Unit)⊕(Unit⊕(Bool×Unit))
abbrev dM:=List (List Bool)×(List Bool×Unit)
abbrev dN:=(List (List Int)×Unit)×Int×Unit
abbrev dO:=Int×(Int×(List Int×(Int×Unit)))
abbrev dP:=(Int×Unit)⊕(Unit⊕(Bool×Unit))
abbrev dQ:=(Int×Unit)⊕(Unit⊕(Int×Unit))
abbrev dR:=(List (List Int)×Unit)×Unit
abbrev dS:=Int×List (List Bool)×Unit
abbrev dT:=Int×(List Int×(Int×Unit))
abbrev dU:=List (List Bool)×Unit
abbrev dV:=(Int×Unit)⊕(Int×Unit)
abbrev dW:=List (List Int)×Unit
abbrev dY:=List Int×Bool×Unit
abbrev dZ:=Int×List Bool×Unit
abbrev ea:=List Int×Int×Unit
abbrev eb:=Int×List Int×Unit
abbrev ec:=Nat×Nat×List Nat
abbrev ed:=Unit⊕(Bool×Unit)
abbrev ee:=Unit⊕(Int×Unit)
abbrev ef:=List Bool×Unit
abbrev eg:=Int×Bool×Unit
abbrev eh:=List Int×Unit
abbrev ei:=Bool×Int×Unit
abbrev ej:=Int×Int×Unit
abbrev en:=Bool×Unit
abbrev eo:=Int×Unit
abbrev ep:=Nat×Nat
abbrev er:=List (List Go.Value)
abbrev es:=Option (List Int)
abbrev et:=List (Option Int)
abbrev eu:=List (List Bool)
abbrev ev:=List (List Nat)
abbrev ew:=List (List Int)
abbrev ahP:=Option Go.Operand
abbrev ahQ:=Array Go.Value
abbrev ahR:=List Go.TypeId
abbrev ahS:=List Go.Value
abbrev ahT:=Option Int
abbrev ahU:=Option Nat
abbrev ahV:=List Bool
abbrev ahW:=Option en
abbrev ahX:=Option eo
abbrev ahY:=List Nat
abbrev ahZ:=List Int
abbrev ah0:=List ep
noncomputable section
namespace Go.jf
variable{a x T:bF}{b i:X}{c h:bM}{f m:bD}{g y:ahS}{j:X->Prop}{k:ahY}{o:bU cn}{p:X->ahS}{q:X->ahY}{s:bv Addr}{t:b5->Act->bD->Prop}{v:cu}{z:ahQ}{N S:Type}{Q:bU (X×bM)}{R:Value}
inductive eC where
 |bg
 |df
 deriving ak4
variable{e:eC->X->Prop}
inductive ah where
 |int (k:cu)
 |bool
 |str
 |a2 (m:eC) (t:ah)
 |ptr (m:eC) (t:ah)
 |osl (t:ah)
 |optr (t:ah)
 |st (t:ah)
 |pr (a b:ah)
 |nil
 |eL
 |mp (t:ah)
 |fx (m:eC) (t:ah)
 |fn (n:X) (t:ah)
 deriving ak4
variable{d r:ah}{l:bm (X×ah)}
def ah.size:ah->X
 |.pr a b=>a.size+b.size
 |.st c=>c.size
 |.nil|.eL=>0
 |_=>1
@[reducible] def ah.den:ah->Type
 |.int _=>Z
 |.bool=>bA
 |.str=>ByteArray
 |.a2 _ a=>bm a.den
 |.ptr _ a=>bv a.den
 |.osl a=>bm a.den
 |.optr a=>a.den
 |.st a=>a.den
 |.pr b c=>b.den×c.den
 |.nil=>bt
 |.eL=>bt
 |.mp a=>bv (bm (Z×a.den)×X)
 |.fx _ a=>bv (bm (Z×a.den)×X)
 |.fn _ a=>a.den
def kq {d:Type} (b:bm (Z×X×d)) (c:bm (Z×d)) (g:X):Prop:=
 c.Pairwise (λe f=>e.1<f.1)/\(b.map λa=>(a.1,a.2.2)).Perm c/\(b.map λa=>a.2.1).Nodup/\∀a∈b,a.2.1<g
def cX:ah->ahS->Value
 |.st _,a=>.agg a.toArray
 |_,a=>a.headD bW
def fr (f:bD) (c e:X) (d:ahS):Prop:=∀a b,d[a]?=Y b->f.cell? ⟨c,e+a,bo⟩=Y b
def iE (c:bD) (b e d:X):Prop:=∀a,e<=a->a<d->(c.cell? ⟨b,a,bo⟩).isSome=bp/\c.frozen? ⟨b,a,bo⟩=bq
def iS (d:bD) (a:X):bv (bU cn×X):=match d.heap[a]? with
 |some (.map c b)=>Y (c,b)
 |_=>bo
def c5 (c d:bD) (a:X):Prop:=(∀b,d.cell? ⟨a,b,bo⟩=c.cell? ⟨a,b,bo⟩/\d.frozen? ⟨a,b,bo⟩=c.frozen? ⟨a,b,bo⟩)/\iS d a=iS c a
def c5.refl (a:bD) (b:X):c5 a a b:=⟨λ_=>⟨bn,bn⟩,bn⟩
theorem c5.of_heap (c:m.heap[b]?=f.heap[b]?):c5 f m b:=
 ⟨λd=>⟨al9 (a:=⟨b,d,bo⟩) c,ama (a:=⟨b,d,bo⟩) c⟩,by grind [iS]⟩
def kO (j k:bD) (d:X):Prop:=∀f b,iS j d=Y (f,b)->∃g e,iS k d=Y (g,e)/\b<=e/\∀(h:X) (a:cn),g[h]?=Y a->a.born<b->∃(i:X) (c:cn),f[i]?=Y c/\c.key=a.key/\c.born=a.born
def kO.of_eq (e:iS m b=iS f b):kO f m b:=
 λd a h=>⟨d,a,e.trans h,bc _,λi c g _=>⟨i,c,g,bn,bn⟩⟩
def kO.refl (a:bD) (b:X):kO a a b:=.of_eq bn
def kO.of_heap {b c:bD} {a:X} (d:c.heap[a]?=b.heap[a]?):kO b c a:=.of_eq (c5.of_heap d).2
theorem kO.trans {a:bD} (h:kO f m b) (i:kO m a b):kO f a b:=λe c k=>by obtain⟨g,d,j,o,p⟩:=h e c k;obtain⟨n,l,q,r,s⟩:=i g d j;grind
def fr.sm (a:fr f b i g) (d:c5 f m b):fr m b i g:=
 λe h c=>by rw[(d.1 _).1];exact a e h c
def iE.sm {c:X} (d:iE f b c i) (a:c5 f m b):iE m b c i:=
 λh e g=>by rw[(a.1 _).1,(a.1 _).2];exact d h e g
def aR (i:eC->X->Prop) (f:bD):(B:ah)->ahS->B.den->ahY->Prop
 |.int z,a,v,d=>d=[]/\a=[.int z v]
 |.bool,a,c,d=>d=[]/\a=[.bool c]
 |.str,a,A,d=>d=[]/\a=[.string A]
 |.a2 s b,a,l,d=>d=[]/\∃k n,a=[.slice k l.length n]/\l.length<=n/\(k=bo->n=0)/\(l=[]\/∃c h,k=Y ⟨c,h,bo⟩/\i s c/\∀j g,l[j]?=Y g->∃e,e.length=b.size/\fr f c (h+j*b.size) e/\aR i f b e g [])
 |.ptr s b,a,g,d=>d=[]/\match g with
  |none=>a=[.pointer bo]
  |some w=>∃c h e,a=[.pointer (Y ⟨c,h,bo⟩)]/\i s c/\e.length=b.size/\fr f c h e/\aR i f b e w []
 |.osl b,a,l,d=>∃k n,a=[.slice k l.length n]/\((
   k=bo/\l=[]/\n=0/\d=[])\/∃(c h:X) (t:ev),k=Y ⟨c,h,bo⟩/\d=c::t.flatten/\t.length=l.length/\l.length<=n/\
   iE f c h (h+n*b.size)/\∀j g r,l[j]?=Y g->t[j]?=Y r->∃e,e.length=b.size/\fr f c (h+j*b.size) e/\aR i f b e g r)
 |.optr b,a,w,d=>∃c h r e,a=[.pointer (Y ⟨c,h,bo⟩)]/\d=c::r/\e.length=b.size/\fr f c h e/\iE f c h (h+b.size)/\aR i f b e w r
 |.st b,a,g,d=>aR i f b a g d
 |.pr k c,a,g,d=>∃x f2,d=x++f2/\aR i f k (a.take k.size) g.1 x/\aR i f c (a.drop k.size) g.2 f2
 |.nil,a,_,d=>d=[]/\a=[]
 |.eL,a,_,_=>a=[]
 |.mp b,a,g,d=>match g with
  |none=>d=[]/\a=[.map bo]
  |some (u,q)=>∃(c:X) (p:bU cn) (o:bm (Z×X×b.den)),a=[.map (Y c)]/\d=[c]/\kq o u q/\iS f c=Y (p,q)/\p.size=o.length/\∀(j:X) (m:Z×X×b.den),o[j]?=Y m->∃e:ahS,e.length=b.size/\p[j]?=Y (akj (.int .i64 m.1) (cX b e) m.2.1)/\aR i f b e m.2.2 []
 |.fx s b,a,g,d=>match g with
  |none=>d=[]/\a=[.map bo]
  |some (u,q)=>∃(c:X) (p:bU cn) (o:bm (Z×X×b.den)),a=[.map (Y c)]/\d=[]/\kq o u q/\i s c/\iS f c=Y (p,q)/\p.size=o.length/\∀(j:X) (m:Z×X×b.den),o[j]?=Y m->∃e:ahS,e.length=b.size/\p[j]?=Y (akj (.int .i64 m.1) (cX b e) m.2.1)/\aR i f b e m.2.2 []
 |.fn v b,a,g,d=>d=[]/\∃y:ahS,a=[.func (.func v) #[] y.toArray]/\aR i f b y g []
theorem aR.len {i:eC->X->Prop} {r:bD}:∀{τ:ah} {e:ahS} {b:τ.den} {l:ahY},aR i r τ e b l->e.length=τ.size
 |.int _,_,_,_,a=>by rw[a.2];rfl
 |.bool,_,_,_,a=>by rw[a.2];rfl
 |.str,_,_,_,a=>by rw[a.2];rfl
 |.a2 _ _,_,_,_,a=>by obtain⟨_,c,g,a,_⟩:=a;rw[a];rfl
 |.ptr _ _,_,b,_,a=>by
  obtain⟨_,a⟩:=a;cases b with
  |none=>simp only at a;rw[a];rfl
  |some x=>obtain⟨d,v,j,a,_⟩:=a;rw[a];rfl
 |.osl _,_,_,_,a=>by obtain⟨c,g,a,_⟩:=a;rw[a];rfl
 |.optr _,_,_,_,a=>by obtain⟨c,g,s,j,a,_⟩:=a;rw[a];rfl
 |.st f,_,_,_,a=>aR.len (τ:=f) a
 |.pr c d,e,_,_,a=>by obtain⟨t,f2,_,m,n⟩:=a;have o:=aR.len (τ:=c) m;have p:=aR.len (τ:=d) n;simp only[fU,na] at o p;show e.length=c.size+d.size;omega
 |.nil,_,_,_,a=>by rw[a.2];rfl
 |.eL,_,_,_,a=>by rw[show _=[] from a];rfl
 |.mp f,_,b,_,a=>by
  cases b with
  |none=>rw[a.2];rfl
  |some q=>obtain⟨d,k,h,a,_⟩:=a;rw[a];rfl
 |.fx u f,_,b,_,a=>by
  cases b with
  |none=>rw[a.2];rfl
  |some q=>obtain⟨d,k,h,a,_⟩:=a;rw[a];rfl
 |.fn _ _,_,_,_,a=>by obtain⟨_,w,a,_⟩:=a;rw[a];rfl
theorem aR.one {j:eC->X->Prop} {r:bD}:∀{τ:ah} {cs:ahS} {c:τ.den} {l:ahY},aR j r τ cs c l->∀e∈cs,e.oneCell'=bp
 |.int _,_,_,_,a=>by rw[a.2];simp[aim]
 |.bool,_,_,_,a=>by rw[a.2];simp[aim]
 |.str,_,_,_,a=>by rw[a.2];simp[aim]
 |.a2 _ _,_,_,_,a=>by obtain⟨_,d,h,a,_⟩:=a;grind [aim]
 |.ptr _ _,_,c,_,a=>by obtain⟨_,a⟩:=a;grind [aim]
 |.osl _,_,_,_,a=>by obtain⟨d,h,a,_⟩:=a;grind [aim]
 |.optr _,_,_,_,a=>by obtain⟨d,h,f,s,a,_⟩:=a;grind [aim]
 |.st t,_,_,_,a=>aR.one (τ:=t) a
 |.pr d g,cs,_,_,a=>by
  obtain⟨u,f2,_,m,n⟩:=a;have o:=aR.one (τ:=d) m;have p:=aR.one (τ:=g) n;intro e b;rw[<-kp d.size cs] at b;rcases hX.1 b with b|b
  ·exact o e b
  exact p e b
 |.nil,_,_,_,a=>by rw[a.2];simp
 |.eL,_,_,_,a=>by rw[show _=[] from a];simp
 |.mp t,_,c,_,a=>by
  cases c with
  |none=>rw[a.2];simp[aim]
  |some q=>obtain⟨g,k,i,a,_⟩:=a;grind [aim]
 |.fx v t,_,c,_,a=>by
  cases c with
  |none=>rw[a.2];simp[aim]
  |some q=>obtain⟨g,k,i,a,_⟩:=a;grind [aim]
 |.fn _ _,_,_,_,a=>by obtain⟨_,w,a,_⟩:=a;grind [aim]
theorem aR.mono {L M:eC->X->Prop} {B C:bD} (d:∀j b,L j b->M j b/\c5 B C b):∀{τ:ah} {F:ahS} {g:τ.den} {r:ahY},aR L B τ F g r->(∀b∈r,c5 B C b)->aR M C τ F g r
 |.int _,_,_,_,a,_=>a
 |.bool,_,_,_,a,_=>a
 |.str,_,_,_,a,_=>a
 |.a2 j m,_,U,_,a,_=>by obtain⟨y,x,E,e,c,k,l⟩:=a;refine⟨y,x,E,e,c,k,l.imp id ?_⟩;rintro⟨b,w,J,i,K⟩;refine⟨b,w,J,(d j b i).1,λv g u=>?_⟩;obtain⟨h,o,p,q⟩:=K v g u;exact⟨h,o,p.sm (d j b i).2,aR.mono d q ac⟩
 |.ptr j m,_,g,_,a,_=>by
  obtain⟨y,a⟩:=a;refine⟨y,?_⟩;cases g with
  |none=>exact a
  |some ad=>
   obtain⟨b,w,h,e,c,k,l,s⟩:=a;exact⟨b,w,h,e,(d j b c).1,k,l.sm (d j b c).2,aR.mono d s ac⟩
 |.osl m,_,U,r,a,f=>by obtain⟨x,E,e,c⟩:=a;refine⟨x,E,e,c.imp id ?_⟩;rintro⟨b,w,O,J,z,S,t,R,K⟩;have i:c5 B C b:=f b (by grind);refine⟨b,w,O,J,z,S,t,R.sm i,λv g H u Q=>?_⟩;obtain⟨h,o,p,q⟩:=K v g H u Q;refine⟨h,o,p.sm i,aR.mono d q (λn t=>f n ?_)⟩;grind [akk,ajn,aig]
 |.optr m,_,_,_,a,f=>by obtain⟨b,w,H,h,e,c,k,l,s,P⟩:=a;have i:c5 B C b:=f b (by grind);exact⟨b,w,H,h,e,c,k,l.sm i,s.sm i,aR.mono d P (λn t=>f n (by grind))⟩
 |.st m,_,_,_,a,f=>aR.mono (τ:=m) d a f
 |.pr x b,F,_,_,a,f=>by obtain⟨N,f2,z,e,c⟩:=a;exact⟨N,f2,z,aR.mono (τ:=x) d e (λn t=>f n (by rw[z];exact r1 _ t)),aR.mono (τ:=b) d c (λn t=>f n (by rw[z];exact lq _ t))⟩
 |.nil,_,_,_,a,_=>a
 |.eL,_,_,_,a,_=>a
 |.mp m,_,g,r,a,f=>by
  cases g with
  |none=>exact a
  |some A=>
   obtain⟨b,G,D,e,c,I,k,l,s⟩:=a;refine⟨b,G,D,e,c,I,(f b (by rw[c];simp)).2.trans k,l,λv A u=>?_⟩;obtain⟨h,o,p,q⟩:=s v A u;exact⟨h,o,p,aR.mono d q ac⟩
 |.fx j m,_,g,r,a,f=>by
  cases g with
  |none=>exact a
  |some A=>
   obtain⟨b,G,D,e,c,I,i,k,l,s⟩:=a;refine⟨b,G,D,e,c,I,(d j b i).1,(d j b i).2.2.trans k,l,λv A u=>?_⟩;obtain⟨h,o,p,q⟩:=s v A u;exact⟨h,o,p,aR.mono d q ac⟩
 |.fn V m,_,g,r,a,_=>by obtain⟨y,T,e,c⟩:=a;exact⟨y,T,e,aR.mono d c ac⟩
def ah.kF:ah->bA
 |.eL=>bq
 |.a2 _ a|.ptr _ a|.osl a|.optr a|.st a|.mp a|.fx _ a|.fn _ a=>a.kF
 |.pr b c=>b.kF&&c.kF
 |_=>bp
theorem aR.uniq {r:eC->X->Prop} {x:bD}:∀{τ:ah} {p:ahS} {e k:τ.den} {h u:ahY},τ.kF=bp->aR r x τ p e h->aR r x τ p k u->h=u
 |.int _,_,_,_,_,_,_,a,b=>a.1.trans b.1.symm
 |.bool,_,_,_,_,_,_,a,b=>a.1.trans b.1.symm
 |.str,_,_,_,_,_,_,a,b=>a.1.trans b.1.symm
 |.a2 _ _,_,_,_,_,_,_,a,b=>a.1.trans b.1.symm
 |.ptr _ _,_,_,_,_,_,_,a,b=>a.1.trans b.1.symm
 |.nil,_,_,_,_,_,_,a,b=>a.1.trans b.1.symm
 |.fn _ _,_,_,_,_,_,_,a,b=>a.1.trans b.1.symm
 |.eL,_,_,_,_,_,d,_,_=>by cases d
 |.fx F g,p,e,k,h,u,_,a,b=>by
  have a0:∀{e:(ah.fx F g).den} {h:ahY},aR r x (.fx F g) p e h->h=[]:=λ{e h} a=>by
   cases e with
   |none=>exact a.1
   |some Q=>obtain⟨l,C,y,_,m,_⟩:=a;exact m
  grind
 |.mp g,_,e,k,_,_,_,a,b=>by
  cases e with
  |none=>
   cases k with
   |none=>exact a.1.trans b.1.symm
   |some R=>
    obtain⟨l,C,y,f,_⟩:=b;have:=a.2.symm.trans f;grind
  |some Q=>
   obtain⟨l,C,y,f,m,_⟩:=a;cases k with
   |none=>
    have:=f.symm.trans b.2;grind
   |some R=>
    obtain⟨A,a3,V,i,D,_⟩:=b;grind
 |.st g,_,_,_,_,_,d,a,b=>aR.uniq (τ:=g) d a b
 |.pr z l,_,_,_,_,_,d,a,b=>by simp only[ah.kF,cC] at d;obtain⟨bl,f2,rfl,f,m⟩:=a;obtain⟨bs,bx,rfl,E,v⟩:=b;rw[aR.uniq (τ:=z) d.1 f E,aR.uniq (τ:=l) d.2 m v]
 |.optr g,_,_,_,_,_,d,a,b=>by
  obtain⟨l,O,h,j,f,rfl,E,v,_,L⟩:=a;obtain⟨A,P,a4,n,i,rfl,ce,K,_,M⟩:=b;rw[f] at i;simp only[hL,ai4,eR,ain,b9] at i;obtain⟨rfl,rfl⟩:=i;obtain rfl:j=n:=by
   apply hM;intro c;rcases cO c j.length with w|w
   ·have aw:=v c j[c] (by grind);have S:=K c (n[c]'(by omega)) ac
    grind
   grind
  rw[aR.uniq (τ:=g) d L M]
 |.osl g,_,e,k,_,_,d,a,b=>by
  obtain⟨z,am,f,m⟩:=a;obtain⟨ad,an,i,D⟩:=b;rw[f] at i;simp only[hL,ah7,b9] at i;obtain⟨rfl,ci,rfl⟩:=i;rcases m with⟨rfl,rfl,rfl,rfl⟩|⟨l,O,s,rfl,rfl,aw,S,cv,T⟩
  ·grind
  rcases D with⟨q,_⟩|⟨A,P,t,q,rfl,co,cs,c1,U⟩
  ·cases q
  simp only[eR,ain,b9] at q;obtain⟨rfl,rfl⟩:=q;have:s=t:=by
   apply hM;intro c;rcases cO c e.length with w|w
   ·have aq:s[c]?=Y (s[c]'(by omega)):=ba aa
    have B:t[c]?=Y (t[c]'(by omega)):=ba aa
    obtain⟨j,ap,G,I⟩:=T c e[c] _ (by grind) aq;obtain⟨n,av,H,J⟩:=U c (k[c]'(by omega)) _ ac B
    obtain rfl:j=n:=by
     apply hM;intro o;rcases cO o j.length with N|N
     ·have c2:=G o j[o] (by grind);have dl:=H o (n[o]'(by omega)) ac
      grind
     grind
    rw[aq,B,aR.uniq (τ:=g) d I J]
   grind
  grind
inductive aZ where
 |idx (i:X)
 |deref
 |unst
 |fst
 |snd
 deriving ak4
variable{n:bm aZ}
def eN:(τ:ah)->τ.den->bm aZ->(a:ah)->a.den->Prop
 |τ,d,[],a,b=>∃i:τ=a,i▸d=b
 |.osl e,k,.idx j::c,a,b=>∃f,k[j]?=Y f/\eN e f c a b
 |.optr e,d,.deref::c,a,b=>eN e d c a b
 |.st e,d,.unst::c,a,b=>eN e d c a b
 |.pr g _,d,.fst::c,a,b=>eN g d.1 c a b
 |.pr _ h,d,.snd::c,a,b=>eN h d.2 c a b
 |_,_,_,_,_=>b6
def fa:(τ:ah)->τ.den->bm aZ->(a:ah)->a.den->τ.den->Prop
 |τ,_,[],a,b,e=>∃m:τ=a,m▸e=b
 |.osl g,j,.idx i::c,a,b,n=>∃h f,j[i]?=Y h/\fa g h c a b f/\n=j.set i f
 |.optr g,d,.deref::c,a,b,e=>fa g d c a b e
 |.st g,d,.unst::c,a,b,e=>fa g d c a b e
 |.pr k _,d,.fst::c,a,b,e=>∃f,fa k d.1 c a b f/\e=(f,d.2)
 |.pr _ l,d,.snd::c,a,b,e=>∃f,fa l d.2 c a b f/\e=(d.1,f)
 |_,_,_,_,_,_=>b6
theorem eN.gw {a:d.den} {b:r.den}:eN d a [] r b↔∃c:d=r,c▸a=b:=by cases d<;>exact akl
theorem fa.gw {e a:d.den} {b:r.den}:fa d e [] r b a↔∃c:d=r,c▸a=b:=by cases d<;>exact akl
abbrev Loc:=bv ep
variable{w:Loc}
def aX (k:bD):(τ:ah)->Loc->ahS->bm aZ->(a:ah)->Loc->ahS->Prop
 |τ,i,b,[],a,d,c=>τ=a/\i=d/\b=c
 |.osl g,_,b,.idx m::f,a,d,c=>∃e j n p h,b=[.slice (Y ⟨e,j,bo⟩) n p]/\m<n/\h.length=g.size/\fr k e (j+m*g.size) h/\aX k g (Y (e,j+m*g.size)) h f a d c
 |.optr g,_,b,.deref::f,a,d,c=>∃e j h,b=[.pointer (Y ⟨e,j,bo⟩)]/\h.length=g.size/\fr k e j h/\aX k g (Y (e,j)) h f a d c
 |.st g,i,b,.unst::f,a,d,c=>aX k g i b f a d c
 |.pr l _,i,b,.fst::f,a,d,c=>aX k l i (b.take l.size) f a d c
 |.pr l e,i,b,.snd::f,a,d,c=>aX k e (i.map λo=>(o.1,o.2+l.size)) (b.drop l.size) f a d c
 |_,_,_,_,_,_,_=>b6
theorem fr.eq (c:fr f b i g) (d:fr f b i y) (k:g.length=y.length):g=y:=by
 apply hM;intro a;rcases cO a g.length with e|e
 ·have h:=c a g[a] (by grind);have j:=d a (y[a]'(by omega)) ac
  grind
 grind
theorem aX.lB {w:bD}:∀{p:bm aZ} {e:ah} {j:Loc} {f:ahS} {u v:ah} {g h:Loc} {q r:ahS},aX w e j f p u g q->aX w e j f p v h r->u=v/\g=h/\q=r
 |[],e,j,f,_,_,_,_,_,_,c,d=>by grind [aX]
 |s::p,e,j,f,_,_,_,_,_,_,c,d=>by
  cases e<;>cases s<;>simp only[aX] at c d
  case osl.idx t i=>
   obtain⟨m,A,E,C,y,aq,_,g,k,n⟩:=c;obtain⟨x,B,F,D,z,b,_,h,l,o⟩:=d;rw[aq] at b;simp only[hL,ah7,eR,ain,b9] at b;obtain⟨⟨rfl,rfl⟩,rfl,rfl⟩:=b;obtain rfl:=k.eq l aa;exact aX.lB n o
  case optr.deref t=>
   obtain⟨m,A,y,aq,g,k,n⟩:=c;obtain⟨x,B,z,b,h,l,o⟩:=d;rw[aq] at b;simp only[hL,ai4,eR,ain,b9] at b;obtain⟨rfl,rfl⟩:=b;obtain rfl:=k.eq l aa;exact aX.lB n o
  case st.unst t=>exact aX.lB c d
  case pr.fst a m=>exact aX.lB c d
  case pr.snd a m=>exact aX.lB c d
def rT (c d:bD) (f:Loc) (g:X) (b:X):Prop:=
 (∀a,(∀e,f=Y (b,e)->a<e\/e+g<=a)->d.cell? ⟨b,a,bo⟩=c.cell? ⟨b,a,bo⟩)/\
 (∀a,d.frozen? ⟨b,a,bo⟩=c.frozen? ⟨b,a,bo⟩)/\(∀a,(d.cell? ⟨b,a,bo⟩).isSome=(c.cell? ⟨b,a,bo⟩).isSome)/\iS d b=iS c b
def rT.sm (a:rT f m w i b) (e:∀c,w≠Y (b,c)):c5 f m b:=
 ⟨λd=>⟨a.1 d (λc g=>absurd g (e c)),a.2.1 d⟩,a.2.2.2⟩
def rT.MQ {j c:X} (a:rT f m w j b) (g:iE f b c i):iE m b c i:=
 λh d e=>by rw[a.2.1,a.2.2.1];exact g h d e
def pC (c:bD) (e:Loc) (d:ahS) (f:X):Prop:=∀b a,e=Y (b,a)->fr c b a d/\iE c b a (a+f)
theorem fr.take {e:bD} {b d h:X} {c:ahS} (f:fr e b d c):fr e b d (c.take h):=λg i a=>by
 rw[akm] at a;split at a
 ·exact f g i a
 grind
theorem fr.drop {f:bD} {b e a:X} {c:ahS} (g:fr f b e c):fr f b (e+a) (c.drop a):=λh i d=>by rw[pA] at d;have:=g (a+h) i d;grind
theorem fr.append (d:fr f b i g) (e:fr f b (i+g.length) y):fr f b i (g++y):=λh c a=>by
 rw[List.getElem?_append] at a;split at a
 ·exact d h c a
 have:=e _ c a;grind
theorem ac8 {a:bm N} {d:N} (e:a[b]?=Y d):∃c f,a=c++d::f/\c.length=b:=by obtain⟨g,rfl⟩:=hF.1 e;exact⟨a.take b,a.drop (b+1),by rw[List.getElem_cons_drop,kp],by grind⟩
theorem aX.sm {D:eC->X->Prop} {y C:bD}:∀{x:bm aZ} {τ:ah} {u:Loc} {h:ahS} {z:τ.den} {p:ahY} {A:ah} {v:Loc} {n:ahS},aR D y τ h z p->(∀a∈p,c5 y C a)->aX y τ u h x A v n->aX C τ u h x A v n
 |[],τ,_,_,_,_,_,_,_,_,_,b=>by cases τ<;>exact b
 |s::x,τ,u,h,z,p,A,v,n,g,d,b=>by
  cases τ<;>cases s<;>simp only[aX] at b
  case osl.idx t i=>
   obtain⟨a,w,U,F,o,rfl,N,q,f,r⟩:=b;obtain⟨m,Q,e,k⟩:=g;simp only[hL,ah7,b9] at e;obtain⟨rfl,rfl,rfl⟩:=e;rcases k with⟨j,_⟩|⟨E,O,K,j,rfl,aw,V,ad,P⟩
   ·cases j
   simp only[eR,ain,b9] at j;obtain⟨rfl,rfl⟩:=j;obtain⟨I,R,G,H⟩:=P i z[i] (K[i]'(by omega)) (by grind) ac
   obtain rfl:=f.eq G aa;exact⟨a,w,_,F,o,bn,N,q,f.sm (d a ac),aX.sm H (λc l=>d c (hY _ (lY.2 ⟨_,cR aa,l⟩))) r⟩
  case optr.deref t=>
   obtain⟨a,w,o,rfl,q,f,r⟩:=b;obtain⟨E,O,S,I,B,rfl,T,L,_,M⟩:=g;simp only[hL,ai4,eR,ain,b9] at B;obtain⟨rfl,rfl⟩:=B;obtain rfl:=f.eq L aa;exact⟨a,w,o,bn,q,f.sm (d a ac),aX.sm M (λc l=>d c (by grind)) r⟩
  case st.unst t=>exact aX.sm (τ:=t) g d b
  case pr.fst m a=>
   obtain⟨J,f2,rfl,e,k⟩:=g;exact aX.sm (τ:=m) e (λc l=>d c (by grind)) b
  case pr.snd m a=>
   obtain⟨J,f2,rfl,e,k⟩:=g;exact aX.sm (τ:=a) k (λc l=>d c (by grind)) b
def nC:bm aZ->bA
 |[]=>bq
 |.idx _::_=>bp
 |.deref::_=>bp
 |_::a=>nC a
def g8:bm aZ->bm aZ->bA
 |p,[]=>nC p
 |.idx _::p,.idx _::a=>g8 p a
 |.deref::p,.deref::a=>g8 p a
 |.unst::p,.unst::a=>g8 p a
 |.fst::p,.fst::a=>g8 p a
 |.snd::p,.snd::a=>g8 p a
 |.fst::_,.snd::_=>bp
 |.snd::_,.fst::_=>bp
 |_,_=>bq
theorem aX.nN {a:Loc}:aX f d w g [] r a y↔d=r/\w=a/\g=y:=by cases d<;>exact akl
def kW:bm aZ->bm aZ->bA
 |.deref::a,.deref::b=>kW a b
 |.unst::a,.unst::b=>kW a b
 |.fst::a,.fst::b=>kW a b
 |.snd::a,.snd::b=>kW a b
 |.fst::_,.snd::_=>bp
 |.snd::_,.fst::_=>bp
 |_,_=>bq
theorem uK (a:bm aZ):kW [] a=bq:=by cases a<;>rfl
theorem Hd:∀{p q:bm aZ},kW p q=bp->g8 p q=bp
 |[],q,a=>by grind [uK]
 |s::p,[],a=>by cases s<;>cases a
 |s::p,b::q,a=>by cases s<;>cases b<;>first|(cases a;done)|exact Hd (p:=p) (q:=q) a|rfl
theorem uL:∀{p q:bm aZ} {τ:ah} {h j:τ.den} {k f:ah} {l:k.den} {i:f.den},kW p q=bp->fa τ h p k l j->eN τ h q f i->eN τ j q f i
 |[],q,_,_,_,_,_,_,_,d,_,_=>by grind [uK]
 |s::p,[],_,_,_,_,_,_,_,d,_,_=>by cases s<;>cases d
 |s::p,m::q,τ,h,j,k,f,l,i,d,c,e=>by
  cases τ<;>cases s<;>simp only[fa] at c<;>cases m<;>first|(cases d;done)|(simp only[eN] at e;done)|skip
  case optr.deref.deref t=>exact uL (p:=p) (q:=q) (τ:=t) d c e
  case st.unst.unst t=>exact uL (p:=p) (q:=q) (τ:=t) d c e
  case pr.fst.fst a b=>
   obtain⟨g,c,rfl⟩:=c;exact uL (p:=p) (q:=q) (τ:=a) d c e
  case pr.snd.snd a b=>
   obtain⟨g,c,rfl⟩:=c;exact uL (p:=p) (q:=q) (τ:=b) d c e
  case pr.fst.snd a b=>
   obtain⟨g,c,rfl⟩:=c;exact e
  case pr.snd.fst a b=>
   obtain⟨g,c,rfl⟩:=c;exact e
theorem aR.sub {B:eC->X->Prop} {A:bD}:∀{p:bm aZ} {τ:ah} {z:Loc} {o:ahS} {m:τ.den} {q:ahY} {l:ah} {r:l.den} {y:Loc} {n:ahS},aR B A τ o m q->eN τ m p l r->aX A τ z o p l y n->∃d,aR B A l n r d/\∀b∈d,b∈q
 |[],τ,z,o,m,q,l,r,y,n,f,c,a=>by grind [aX.nN,eN.gw]
 |s::p,τ,z,o,m,q,l,r,y,n,f,c,a=>by
  cases τ<;>cases s<;>simp only[eN] at c<;>simp only[aX] at a
  case osl.idx t i=>
   obtain⟨J,D,c⟩:=c;obtain⟨G,Q,ap,V,I,e,u,L,v,a⟩:=a;obtain⟨T,U,rfl,f⟩:=f;rcases f with⟨_,rfl,_⟩|⟨F,P,C,rfl,rfl,an,ad,N,O⟩
   ·grind
   have am:i<m.length:=(hF.1 D).1;obtain⟨d,E⟩:∃d,C[i]?=some d:=⟨C[i],ba aa⟩;obtain⟨H,M,w,x⟩:=O i J d D E;simp only[hL,ah7,eR,ain,b9] at e;obtain⟨⟨rfl,rfl⟩,rfl,rfl⟩:=e;obtain rfl:=v.eq w aa;obtain⟨g,j,k⟩:=aR.sub (p:=p) x c a;exact⟨g,j,λb h=>hY _ (lY.2 ⟨d,i4 E,k b h⟩)⟩
  case optr.deref t=>
   obtain⟨G,Q,I,e,L,v,a⟩:=a;obtain⟨F,P,d,H,rfl,rfl,M,w,N,x⟩:=f;simp only[hL,ai4,eR,ain,b9] at e;obtain⟨rfl,rfl⟩:=e;obtain rfl:=v.eq w aa;obtain⟨g,j,k⟩:=aR.sub (p:=p) x c a;exact⟨g,j,λb h=>hY _ (k b h)⟩
  case st.unst t=>exact aR.sub (p:=p) (τ:=t) f c a
  case pr.fst R S=>
   obtain⟨K,f2,rfl,e,u⟩:=f;obtain⟨g,j,k⟩:=aR.sub (p:=p) e c a;exact⟨g,j,λb h=>r1 _ (k b h)⟩
  case pr.snd R S=>
   obtain⟨K,f2,rfl,e,u⟩:=f;obtain⟨g,j,k⟩:=aR.sub (p:=p) u c a;exact⟨g,j,λb h=>lq _ (k b h)⟩
theorem zU:∀(am:bm aZ) {τ:ah} {loc:Loc} {u:ahS} {a0:τ.den} {fl:ahY} {F:ah} {i2:F.den},aR e f τ u a0 fl->pC f loc u τ.size->fl.Nodup->(∀g d,loc=Y (g,d)->g∉fl/\∀q,¬e q g)->(∀g∈fl,∀q,¬e q g)->eN τ a0 am F i2->∃y S bl U,aX f τ loc u am F y S/\aR e f F S i2 bl/\pC f y S F.size/\fl.Perm (bl++U)/\(∀m h,y=Y (m,h)->(∃d,loc=Y (m,d)/\d<=h/\h+F.size<=d+τ.size)\/m∈U)/\(∀(
   s:bD) (K:eC->X->Prop) (D:ahS) (z:F.den) (V:ahY) (d1:τ.den),
   (∀q g,e q g->K q g)->(∀g,(∃q,e q g)\/g∈U\/(∃d,loc=Y (g,d))->rT f s y F.size g)->
   aR K s F D z V->(y=bo->am≠[]->D=S)->(∀g d,y=Y (g,d)->fr s g d D)->fa τ a0 am F z d1->
   ∃n N,aR K s τ n d1 N/\(am=[]->n=D)/\(loc=bo->(y≠bo\/D=S)->n=u)/\(∀g d,loc=Y (g,d)->fr s g d n)/\N.Perm (V++U)/\aX s τ loc n am F y D/\∀(c:bm aZ) (Q:ah) (P:Loc) (M:ahS),g8 am c=bp->aX f τ loc u c Q P M->aX s τ loc n c Q P M)/\
  (∀(c:bm aZ) (a3:ah) (z:a3.den) (ap:Loc) (dl:ahS) (f2:ahY),kW am c=bp->a3.kF=bp->eN τ a0 c a3 z->aX f τ loc u c a3 ap dl->aR e f a3 dl z f2->∀b∈f2,b∈U/\∀m h,y=Y (m,h)->b≠m):=by
 intro am
 induction am with
 |nil=>
  intro τ loc u a0 fl F i2 el cv d9 ad c1 H;obtain⟨rfl,rfl⟩:=eN.gw.1 H;refine⟨loc,u,fl,[],(by cases τ<;>exact⟨bn,bn,bn⟩),el,cv,ac,λm h a=>.inl ⟨h,a,aa,aa⟩,?_,λc _ _ _ _ _ a=>by grind [uK]⟩;intro s K D z V d1 _ _ A _ O B;obtain⟨_,rfl⟩:=fa.gw.1 B;exact⟨D,V,A,λ_=>rfl,λcs a=>a.resolve_left (λc=>c cs),O,ac,(by cases τ<;>exact⟨bn,bn,bn⟩),λc _ _ _ o=>by grind [g8,nC]⟩
 |cons pm am hc=>
  intro τ loc u a0 fl F i2 el cv d9 ad c1 H;cases τ<;>cases pm<;>simp only[eN] at H
  case osl.idx t i=>
   obtain⟨a4,fs,H⟩:=H;obtain⟨ps,ex,rfl,el⟩:=el;rcases el with⟨_,rfl,_⟩|⟨g,d,f7,rfl,rfl,mt,op,io,lf⟩
   ·simp at fs
   have lb:i<a0.length:=(hF.1 fs).1;obtain⟨gf,mc⟩:∃gf,f7[i]?=some gf:=⟨f7[i],ba aa⟩;obtain⟨f9,jp,f5,kd⟩:=lf i a4 gf fs mc;obtain⟨d0,i1,ft,pl⟩:=ac8 mc;have ro:∀w,w<a0.length->d+w*t.size+t.size<=d+ex*t.size:=λw o=>(by have:(w+1)*t.size<=ex*t.size:=h5 _ aa;grind);have f6:pC f (Y (g,d+i*t.size)) f9 t.size:=(by rintro R r a;simp only[eR,ij] at a;obtain⟨rfl,rfl⟩:=a;exact⟨f5,λx l O=>io x aa (by grind)⟩);have le:=d9;rw[ft] at le;simp only[ym,lW,ko,jR,hX,not_or] at le;obtain⟨⟨ol,f3,on⟩,lc,⟨fT,f8,or⟩,os⟩:=le;obtain⟨y,S,bl,U,d3,d4,d5,G,T,d6,fn⟩:=hc (loc:=Y (g,d+i*t.size)) kd f6 fT (by rintro R r a;simp only[eR,ij] at a;obtain⟨rfl,rfl⟩:=a;exact⟨f3,c1 g ac⟩) (λb k=>c1 b (by rw[ft];simp[k])) H;refine⟨y,S,bl,g::(d0.flatten++(U++i1.flatten)),⟨g,d,_,ex,f9,bn,lb,jp,f5,d3⟩,d4,d5,?_,?_,?_,λc _ _ _ _ _ a=>by cases c with|nil=>cases a|cons I c=>cases I<;>cases a⟩
   ·rw[ft];simp only[ym,lW];rw[tM] at G|-;intro b;have:=G b;simp only[tK,akn] at this|-;omega
   ·intro m h a;right;rcases T m h a with⟨r,l,_⟩|l
    ·simp only[eR,ij] at l;rw[l.1];simp
    simp[l]
   intro s K D z V d1 bx v A ek d7 B;simp only[fa] at B;obtain⟨n7,gc,l2,B,rfl⟩:=B;obtain rfl:n7=a4:=(by rw[fs] at l2;exact(gC l2).symm);obtain⟨n,N,C,_,_,L,an,em,co⟩:=d6 s K D z V gc bx (by
     rintro b (a|a|⟨r,a⟩)
     ·exact v b (.inl a)
     ·exact v b (.inr (.inl (by simp[a])))
     simp only[eR,ij] at a;exact v b (.inr (.inl (by rw[<-a.1];simp)))) A
    (by
     intro cs sz;exact ek cs ac) d7 B
   have ce:∀m h,y=Y (m,h)->(m=g/\d+i*t.size<=h/\h+F.size<=d+i*t.size+t.size)\/m∈gf:=by
    intro m h a;rcases T m h a with⟨r,l,O,ic⟩|l
    ·simp only[eR,ij] at l;omega
    exact .inr (G.mem_iff.2 (by simp[l]))
   have fp:=v g (.inr (.inl ac));have gl:∀q b,e q b->K q b/\c5 f s b:=λq b k=>⟨bx q b k,(v b (.inl ⟨q,k⟩)).sm (λr a=>by
    rcases ce b r a with⟨rfl,_⟩|l
    ·exact c1 b ac q k
    exact c1 b (by rw[ft];simp[l]) q k)⟩
   have mz:∀(w:X) (ib:t.den) (bs:ahY),w≠i->a0[w]?=Y ib->f7[w]?=Y bs->∀d2:ahS,d2.length=t.size->fr f g (d+w*t.size) d2->fr s g (d+w*t.size) d2/\∀b∈bs,c5 f s b:=by
    intro w ib bs gs o ds d2 i0 hr;have rs:w<a0.length:=(hF.1 o).1;have kg:∀b∈bs,b∈d0.flatten\/b∈i1.flatten:=by
     intro b k;rw[ft] at ds;rcases cO w d0.length with a|a
     ·rw[qx a] at ds;exact .inl (lY.2 ⟨bs,i4 ds,k⟩)
     rw[pz a] at ds;obtain⟨c,E⟩:∃c,w-d0.length=c+1:=⟨w-d0.length-1,aa⟩;rw[E] at ds;simp only[vW] at ds;exact .inr (lY.2 ⟨bs,i4 ds,k⟩)
    refine⟨?_,?_⟩
    ·intro x hw fz;have is:x<d2.length:=(hF.1 fz).1;rw[fp.1]
     ·exact hr x hw fz
     intro h a;rcases ce g h a with⟨_,l,O⟩|l
     ·rcases Nat.lt_or_gt_of_ne gs with rt|rl
      ·left;have:(w+1)*t.size<=i*t.size:=h5 _ aa;rw[lu,lv] at this;omega
      right;have:(i+1)*t.size<=w*t.size:=h5 _ aa;rw[lu,lv] at this;omega
     exact absurd l f3
    intro b k;refine(v b (.inr (.inl ?_))).sm ?_
    ·rcases kg b k with a|a<;>simp[a]
    intro h a;rcases ce b h a with⟨rfl,_⟩|l
    ·rcases kg b k with a|a
     ·exact ol a
     exact on a
    rcases kg b k with a|a
    ·exact os b a b (.inl l) rfl
    exact or b l b a bn
   refine⟨[.slice (Y ⟨g,d,bo⟩) a0.length ex],g::(d0++N::i1).flatten,⟨Y ⟨g,d,bo⟩,ex,ac,.inr ⟨g,d,d0++N::i1,bn,bn,?_,by simpa using op,fp.MQ io,?_⟩⟩,ac,λ_ _=>rfl,?_,?_,⟨g,d,_,ex,n,bn,lb,by rw[C.len],L g _ rfl,em⟩,?_⟩
   ·rw[ft] at mt;simpa using mt
   ·intro w ib bs o H;by_cases gs:w=i
    ·subst gs;rw[List.getElem?_set_self lb] at o;obtain rfl:=gC o;rw[pz aa,pl,oM] at H;simp only[qy,eR] at H;subst H;exact⟨n,by rw[C.len],L g _ rfl,C⟩
    rw[List.getElem?_set_ne (λa=>gs a.symm)] at o;have ds:f7[w]?=Y bs:=by
     rw[ft];rcases cO w d0.length with a|a
     ·rw[qx a] at H|-;exact H
     rw[pz a] at H|-;obtain⟨c,E⟩:∃c,w-d0.length=c+1:=⟨w-d0.length-1,aa⟩;rw[E] at H|-;simpa using H
    obtain⟨d2,i0,hr,ll⟩:=lf w ib bs o ds;obtain⟨lo,lt⟩:=mz w ib bs gs o ds d2 i0 hr;exact⟨d2,i0,lo,ll.mono gl lt⟩
   ·intro R r a;have go:=(ad R r a).1;refine((cv R r a).1).sm ((v R (.inr (.inr ⟨r,a⟩))).sm ?_);intro h f1;rcases ce R h f1 with⟨rfl,_⟩|l
    ·exact go ac
    exact go (by rw[ft];simp[l])
   ·rw[tM] at an|-;intro b;have:=an b;simp only[ym,lW,tK,akn] at this|-;omega
   intro c Q P M o E;cases c with
   |nil=>exact E
   |cons I c=>
    cases I<;>simp only[g8] at o<;>first|(cases o;done)|skip
    rename_i x;obtain⟨R,r,tf,ra,i3,l,O,ic,gi,ii⟩:=E;simp only[hL,ah7,eR,ain,b9] at l;obtain⟨⟨rfl,rfl⟩,rfl,rfl⟩:=l;by_cases mp:x=i
    ·subst mp;obtain rfl:=gi.eq f5 aa;exact⟨g,d,_,ex,n,bn,O,C.len,L g _ rfl,co c Q P M o ii⟩
    have nn:a0[x]?=Y a0[x]:=ba O;have mo:f7[x]?=Y (f7[x]'(by omega)):=ba _
    obtain⟨d2,i0,hr,ll⟩:=lf x _ _ nn mo;obtain rfl:=gi.eq hr aa;obtain⟨lo,lt⟩:=mz x _ _ mp nn mo i3 ic gi;exact⟨g,d,_,ex,i3,bn,O,ic,lo,aX.sm ll lt ii⟩
  case optr.deref t=>
   obtain⟨g,d,gf,f9,rfl,rfl,jp,f5,io,kd⟩:=el;simp only[ko] at d9;obtain⟨rg,oN⟩:=d9;have f6:pC f (Y (g,d)) f9 t.size:=(by rintro R r a;grind);obtain⟨y,S,bl,U,d3,d4,d5,G,T,d6,fn⟩:=hc (loc:=Y (g,d)) kd f6 oN (by grind) (λb k=>c1 b (by grind)) H;refine⟨y,S,bl,g::U,⟨g,d,f9,bn,jp,f5,d3⟩,d4,d5,?_,?_,?_,?_⟩
   rotate_left 3
   ·intro c a3 z ap dl f2 a fT d8 ci A b k;cases c with
    |nil=>cases a
    |cons I c=>
     cases I<;>first|(cases a;done)|skip
     simp only[aX] at ci;obtain⟨R,r,rb,aq,rd,of,ci⟩:=ci;simp only[hL,ai4,eR,ain,b9] at aq;obtain⟨rfl,rfl⟩:=aq;obtain rfl:=of.eq f5 aa;obtain⟨aw,J⟩:=fn c a3 z ap dl f2 a fT d8 ci A b k;exact⟨by simp[aw],J⟩
   ·rw[tM] at G|-;intro b;have:=G b;simp only[tK,akn] at this|-;omega
   ·intro m h a;right;rcases T m h a with⟨r,l,_⟩|l
    ·simp only[eR,ij] at l;rw[l.1];simp
    simp[l]
   intro s K D z V d1 bx v A ek d7 B;simp only[fa] at B;obtain⟨n,N,C,_,_,L,an,em,co⟩:=d6 s K D z V d1 bx (by
     rintro b (a|a|⟨r,a⟩)
     ·exact v b (.inl a)
     ·exact v b (.inr (.inl (by simp[a])))
     simp only[eR,ij] at a;exact v b (.inr (.inl (by rw[<-a.1];simp)))) A
    (λcs _=>ek cs ac) d7 B
   have fp:=v g (.inr (.inl ac));refine⟨[.pointer (Y ⟨g,d,bo⟩)],g::N,⟨g,d,N,n,bn,bn,C.len,L g d bn,fp.MQ io,C⟩,ac,λ_ _=>rfl,?_,?_,⟨g,d,n,bn,C.len,L g d bn,em⟩,?_⟩
   ·intro R r a;have go:=(ad R r a).1;refine((cv R r a).1).sm ((v R (.inr (.inr ⟨r,a⟩))).sm ?_);intro h f1;rcases T R h f1 with⟨nx,l,_⟩|l
    ·simp only[eR,ij] at l;exact go (by rw[l.1];simp)
    exact go (hY _ (G.mem_iff.2 (by simp[l])))
   ·rw[tM] at an|-;intro b;have:=an b;simp only[tK,akn] at this|-;omega
   intro c Q P M o E;cases c with
   |nil=>exact E
   |cons I c=>
    cases I<;>simp only[g8] at o<;>first|(cases o;done)|skip
    obtain⟨R,r,i3,l,ic,gi,ii⟩:=E;simp only[hL,ai4,eR,ain,b9] at l;obtain⟨rfl,rfl⟩:=l;obtain rfl:=gi.eq f5 aa;exact⟨g,d,n,bn,C.len,L g d bn,co c Q P M o ii⟩
  case st.unst t=>
   obtain⟨y,S,bl,U,d3,d4,d5,G,T,d6,fn⟩:=hc (loc:=loc) (τ:=t) el cv d9 ad c1 H;refine⟨y,S,bl,U,d3,d4,d5,G,T,?_,?_⟩
   rotate_left 1
   ·intro c a3 z ap dl f2 a fT d8 ci A b k;cases c with
    |nil=>cases a
    |cons I c=>
     cases I<;>first|(cases a;done)|skip
     exact fn c a3 z ap dl f2 a fT d8 ci A b k
   intro s K D z V d1 bx v A ek d7 B;obtain⟨n,N,C,s0,hi,L,an,em,co⟩:=d6 s K D z V d1 bx v A (λcs _=>ek cs ac) d7 B;refine⟨n,N,C,ac,hi,L,an,em,?_⟩;intro c Q P M o E;cases c with
   |nil=>
    obtain⟨rfl,rfl,rfl⟩:=aX.nN.1 E;obtain⟨_,_,a4⟩:=aX.nN.1 (co [] t loc u (by simpa[g8,nC] using o) (aX.nN.2 ⟨bn,bn,bn⟩));exact aX.nN.2 ⟨bn,bn,a4⟩
   |cons I c=>
    cases I<;>simp only[g8] at o<;>first|(cases o;done)|skip
    exact co c Q P M o E
  case pr.fst j c2=>
   obtain⟨f0,f2,rfl,l,O⟩:=el;have lk:=l.len;have ap:=O.len;simp only[fU,na] at lk ap;have f6:pC f loc (u.take j.size) j.size:=λg d a=>⟨(cv g d a).1.take,λx aw J=>(cv g d a).2 x aw (by show x<d+(j.size+c2.size);omega)⟩;simp only[jR] at d9;obtain⟨lc,fT,f8⟩:=d9;obtain⟨y,S,bl,U,d3,d4,d5,G,T,d6,fn⟩:=hc (loc:=loc) l f6 lc (λg d a=>⟨λc=>(ad g d a).1 (by simp[c]),(ad g d a).2⟩) (λb k=>c1 b (by grind)) H;refine⟨y,S,bl,U++f2,d3,d4,d5,?_,?_,?_,?_⟩
   rotate_left 3
   ·intro c a3 z ap dl i8 a gt d8 ci A b k;cases c with
    |nil=>cases a
    |cons I c=>
     cases I<;>first|(cases a;done)|skip
     ·obtain⟨aw,J⟩:=fn c a3 z ap dl i8 a gt d8 ci A b k;exact⟨by simp[aw],J⟩
     obtain⟨bs,C,L⟩:=aR.sub (p:=c) O d8 ci;have f4:b∈f2:=L b (by rw[<-aR.uniq gt A C];exact k);refine⟨by simp[f4],λm h fs a4=>?_⟩;subst a4;rcases T b h fs with⟨r,aq,_⟩|aq
     ·exact(ad b r aq).1 (by simp[f4])
     exact f8 b (G.mem_iff.2 (by simp[aq])) b f4 bn
   ·rw[tM] at G|-;intro b;have:=G b;simp only[tK] at this|-;omega
   ·intro m h a;rcases T m h a with⟨r,aw,J,hs⟩|aw
    ·exact .inl ⟨r,aw,J,by show h+F.size<=r+(j.size+c2.size);omega⟩
    exact .inr (by simp[aw])
   intro s K D z V d1 bx v A ek d7 B;simp only[fa] at B;obtain⟨gc,B,rfl⟩:=B;obtain⟨n,N,C,_,hi,L,an,em,co⟩:=d6 s K D z V gc bx (by
     rintro b (a|a|a)
     ·exact v b (.inl a)
     ·exact v b (.inr (.inl (by simp[a])))
     exact v b (.inr (.inr a))) A (λcs _=>ek cs ac) d7 B
   have ce:∀m h,y=Y (m,h)->(∃d,loc=Y (m,d)/\d<=h/\h+F.size<=d+j.size)\/m∈f0:=λm h a=>(T m h a).imp id (λc=>G.mem_iff.2 (by simp[c]));have gl:∀q b,e q b->K q b/\c5 f s b:=λq b k=>⟨bx q b k,(v b (.inl ⟨q,k⟩)).sm (λr a=>by
    rcases ce b r a with⟨d,c,_⟩|c
    ·exact(ad b d c).2 q k
    exact c1 b (by simp[c]) q k)⟩
   have ne:∀b∈f2,c5 f s b:=λb k=>(v b (.inr (.inl (by simp[k])))).sm (λh a=>by
    rcases ce b h a with⟨d,c,_⟩|c
    ·exact(ad b d c).1 (by simp[k])
    exact f8 b c b k bn)
   have no:=C.len;refine⟨n++u.drop j.size,N++f2,⟨N,f2,bn,?_,?_⟩,ac,?_,?_,?_,(by
    show aX s j loc ((n++u.drop j.size).take j.size) am F y D;rw[tO aa,fG aa];exact em),?_⟩
   ·rw[tO aa,fG aa];exact C
   ·rw[rY aa,qu aa,iu];exact O.mono gl ne
   ·intro aw J;rw[hi aw J,kp]
   ·intro g d a;refine(L g d a).append ?_;rw[no];intro x hw fz;have fp:=v g (.inr (.inr ⟨d,a⟩));have is:x<(u.drop j.size).length:=(hF.1 fz).1;simp only[na] at is;rw[fp.1]
    ·exact((cv g d a).1.drop) x hw fz
    intro h f1;rcases ce g h f1 with⟨nx,aw,J,hs⟩|c
    ·rw[a] at aw;simp only[eR,ij,ajo] at aw;omega
    exact absurd (by simp[c]) (ad g d a).1
   ·rw[tM] at an|-;intro b;have:=an b;simp only[tK] at this|-;omega
   intro c Q P M o E;have aq:(n++u.drop j.size).take j.size=n:=(by rw[tO aa,fG aa]);have ge:(n++u.drop j.size).drop j.size=u.drop j.size:=(by rw[rY aa,qu aa,iu]);cases c with
   |nil=>
    obtain⟨rfl,rfl,rfl⟩:=aX.nN.1 E;obtain⟨_,_,a4⟩:=aX.nN.1 (co [] j loc (u.take j.size) (by simpa[g8,nC] using o) (aX.nN.2 ⟨bn,bn,bn⟩));exact aX.nN.2 ⟨bn,bn,by rw[a4,kp]⟩
   |cons I c=>
    cases I<;>simp only[g8] at o<;>first|(cases o;done)|skip
    ·show aX s j loc ((n++u.drop j.size).take j.size) c Q P M;rw[aq];exact co c Q P M o E
    show aX s c2 (loc.map λc=>(c.1,c.2+j.size)) ((n++u.drop j.size).drop j.size) c Q P M;rw[ge];exact aX.sm O ne E
  case pr.snd j c2=>
   obtain⟨f0,f2,rfl,l,O⟩:=el;have lk:=l.len;have ap:=O.len;simp only[fU,na] at lk ap;have f6:pC f (loc.map λc=>(c.1,c.2+j.size)) (u.drop j.size) c2.size:=by
    intro g d a;cases loc with
    |none=>grind
    |some c=>
     obtain⟨pv,av⟩:=c;simp only[i9,eR,ij] at a;obtain⟨rfl,rfl⟩:=a;exact⟨(cv _ _ rfl).1.drop,λx aw J=>(cv _ _ rfl).2 x aa (by show x<av+(j.size+c2.size);omega)⟩
   simp only[jR] at d9;obtain⟨lc,fT,f8⟩:=d9;have f3:∀g d,(loc.map λc=>(c.1,c.2+j.size))=Y (g,d)->∃av,loc=Y (g,av)/\d=av+j.size:=by
    intro g d a;cases loc with
    |none=>grind
    |some c=>
     grind
   obtain⟨y,S,bl,U,d3,d4,d5,G,T,d6,fn⟩:=hc (loc:=loc.map λc=>(c.1,c.2+j.size)) O f6 fT (λg d a=>by grind) (λb k=>c1 b (by grind)) H;refine⟨y,S,bl,U++f0,d3,d4,d5,?_,?_,?_,?_⟩
   rotate_left 3
   ·intro c a3 z ap dl i8 a gt d8 ci A b k;cases c with
    |nil=>cases a
    |cons I c=>
     cases I<;>first|(cases a;done)|skip
     ·obtain⟨bs,C,L⟩:=aR.sub (p:=c) l d8 ci;have f4:b∈f0:=L b (by rw[<-aR.uniq gt A C];exact k);refine⟨by simp[f4],λm h fs a4=>?_⟩;subst a4;rcases T b h fs with⟨r,aq,_⟩|aq
      ·obtain⟨av,ge,_⟩:=f3 _ _ aq;exact(ad b av ge).1 (by simp[f4])
      exact f8 b f4 b (G.mem_iff.2 (by simp[aq])) rfl
     obtain⟨aw,J⟩:=fn c a3 z ap dl i8 a gt d8 ci A b k;exact⟨by simp[aw],J⟩
   ·rw[tM] at G|-;intro b;have:=G b;simp only[tK] at this|-;omega
   ·intro m h a;rcases T m h a with⟨r,aw,J,hs⟩|aw
    ·obtain⟨av,hv,rfl⟩:=f3 _ _ aw;exact .inl ⟨av,hv,aa,by show h+F.size<=av+(j.size+c2.size);omega⟩
    exact .inr (by simp[aw])
   intro s K D z V d1 bx v A ek d7 B;simp only[fa] at B;obtain⟨gc,B,rfl⟩:=B;obtain⟨n,N,C,_,hi,L,an,em,co⟩:=d6 s K D z V gc bx (by
     rintro b (a|a|⟨d,a⟩)
     ·exact v b (.inl a)
     ·exact v b (.inr (.inl (by simp[a])))
     obtain⟨av,hv,rfl⟩:=f3 _ _ a;exact v b (.inr (.inr ⟨av,hv⟩))) A (λcs _=>ek cs ac) d7 B
   have ce:∀m h,y=Y (m,h)->(∃d,loc=Y (m,d)/\d+j.size<=h/\h+F.size<=d+j.size+c2.size)\/m∈f2:=λm h a=>by
    rcases T m h a with⟨r,aw,J,hs⟩|c
    ·obtain⟨av,hv,rfl⟩:=f3 _ _ aw;exact .inl ⟨av,hv,J,hs⟩
    exact .inr (G.mem_iff.2 (by simp[c]))
   have gl:∀q b,e q b->K q b/\c5 f s b:=λq b k=>⟨bx q b k,(v b (.inl ⟨q,k⟩)).sm (λr a=>by
    rcases ce b r a with⟨d,c,_⟩|c
    ·exact(ad b d c).2 q k
    exact c1 b (by simp[c]) q k)⟩
   have nd:∀b∈f0,c5 f s b:=λb k=>(v b (.inr (.inl (by simp[k])))).sm (λh a=>by
    rcases ce b h a with⟨d,c,_⟩|c
    ·exact(ad b d c).1 (by simp[k])
    exact f8 b k b c bn)
   have no:=C.len;refine⟨u.take j.size++n,f0++N,⟨f0,N,bn,?_,?_⟩,ac,?_,?_,?_,(by
    show aX s c2 (loc.map λc=>(c.1,c.2+j.size)) ((u.take j.size++n).drop j.size) am F y D;rw[rY (by simp;omega),qu (by simp;omega),iu];exact em),?_⟩
   ·rw[tO (by simp;omega),amb,amc];exact l.mono gl nd
   ·rw[rY (by simp;omega),qu (by simp;omega),iu];exact C
   ·intro aw J;rw[hi (by rw[aw];rfl) J,kp]
   ·intro g d a;have fp:=v g (.inr (.inr ⟨d,a⟩));have ok:fr s g d (u.take j.size):=by
     intro x hw fz;have is:x<(u.take j.size).length:=(hF.1 fz).1;simp only[fU] at is;rw[fp.1]
     ·exact((cv g d a).1.take) x hw fz
     intro h f1;rcases ce g h f1 with⟨nx,aw,J,hs⟩|c
     ·rw[a] at aw;simp only[eR,ij,ajo] at aw;omega
     exact absurd (by simp[c]) (ad g d a).1
    refine ok.append ?_;have:=L g (d+j.size) (by rw[a];rfl);rwa[fU,hG aa]
   ·rw[tM] at an|-;intro b;have:=an b;simp only[tK] at this|-;omega
   intro c Q P M o E;have aq:(u.take j.size++n).take j.size=u.take j.size:=(by rw[tO (by simp;omega),amb,amc]);have ge:(u.take j.size++n).drop j.size=n:=(by rw[rY (by simp;omega),qu (by simp;omega),iu]);cases c with
   |nil=>
    obtain⟨rfl,rfl,rfl⟩:=aX.nN.1 E;obtain⟨_,_,a4⟩:=aX.nN.1 (co [] c2 (loc.map λc=>(c.1,c.2+j.size)) (u.drop j.size) (by simpa[g8,nC] using o) (aX.nN.2 ⟨bn,bn,bn⟩));exact aX.nN.2 ⟨bn,bn,by rw[a4,kp]⟩
   |cons I c=>
    cases I<;>simp only[g8] at o<;>first|(cases o;done)|skip
    ·show aX s j loc ((u.take j.size++n).take j.size) c Q P M;rw[aq];exact aX.sm l nd E
    show aX s c2 (loc.map λc=>(c.1,c.2+j.size)) ((u.take j.size++n).drop j.size) c Q P M;rw[ge];exact co c Q P M o E
theorem DQ (i:bm aZ) {loc:Loc} {u:d.den} {τ':ah} {y:τ'.den} (D:aR e f d g u k) (E:pC f loc g d.size) (F:k.Nodup) (G:∀a b,loc=Y (a,b)->a∉k/\∀h,¬e h a) (H:∀a∈k,∀h,¬e h a) (I:eN d u i τ' y):∃c l r o,aX f d loc g i τ' c l/\aR e f τ' l y r/\pC f c l τ'.size/\k.Perm (r++o)/\(∀q s,c=Y (q,s)->(∃b,loc=Y (q,b)/\b<=s/\s+τ'.size<=b+d.size)\/q∈o)/\(∀(
   j:bD) (p:eC->X->Prop) (m:ahS) (B:τ'.den) (w:ahY) (A:d.den),
   (∀h a,e h a->p h a)->(∀a,(∃h,e h a)\/a∈o\/(∃b,loc=Y (a,b))->rT f j c τ'.size a)->
   aR p j τ' m B w->(c=bo->i≠[]->m=l)->(∀a b,c=Y (a,b)->fr j a b m)->fa d u i τ' B A->
   ∃n x,aR p j d n A x/\(i=[]->n=m)/\(loc=bo->(c≠bo\/m=l)->n=g)/\(∀a b,loc=Y (a,b)->fr j a b n)/\x.Perm (w++o)/\aX j d loc n i τ' c m/\∀(t:bm aZ) (C:ah) (z:Loc) (v:ahS),g8 i t=bp->aX f d loc g t C z v->aX j d loc n t C z v):=by
 obtain⟨c,l,r,o,J,K,L,M,N,O,_⟩:=zU i D E F G H I;grind
def bb (a c:X->Prop):eC->X->Prop
 |.bg=>a
 |.df=>λb=>a b\/c b
theorem mX {a:X->Prop} {d:eC} (c:bb a j d b):a b\/j b:=by cases d;exact .inl c;exact c
inductive ak where
 |dead
 |val (τ:ah) (x:τ.den)
 |ref (id:X) (p:bm aZ)
 |addr (id:X) (p:bm aZ)
 |view (id:X) (p:bm aZ) (lo hi:X)
 |app (id:X) (p:bm aZ) (τ:ah) (ys:bm τ.den) (own:ahY)
 |dg (v:Value)
 |fe (l:bm ak)
 |agg (l:bm ak)
 |eA (f:X) (l:bm ak)
 |ent (id:X) (p:bm aZ) (k:Z)
 |hy (a:ak)
variable{V:ak}
abbrev aF:=(a:ah)×a.den
variable{u:bm (X×aF)}{P:aF}
structure aO where
 g:bm (X×ak)
 h:bm (X×aF)
variable{O:aO}
def ar {a:Type}:bm (X×a)->X->bv a
 |[],_=>bo
 |(k,v)::r,n=>bif bH k n then Y v else ar r n
theorem dh (b:X) (d:N) (c:bm (X×N)) (a:X):ar ((b,d)::c) a=if b=a then Y d else ar c a:=by
 show(bif bH b a then Y d else ar c a)=_;by_cases e:b=a
 ·simp_all
 rw[ax e];grind [aiK]
def gt (a:bm (X×ak)) (b:X):ak:=match ar a b with|some c=>c|none=>.dead
structure eX where
 I0:X->Prop
 B:X->Prop
 F0:X->Prop
 w0:bD
 n:X
 pin:ahY
 vs:X->Value
variable{U:eX}
def eX.ok (a:eX) (d:X):Prop:=d<a.n/\d∉a.pin
inductive cN (M:eC->X->Prop) (w:bD) (h:bm (X×aF)) (rt:X->ahS) (fp:X->ahY):ak->Value->Prop
 |dead (v:Value):cN M w h rt fp .dead v
 |dg (v:Value):cN M w h rt fp (.dg v) v
 |val {τ:ah} {x:τ.den} {cs:ahS} (r:aR M w τ cs x []):cN M w h rt fp (.val τ x) (cX τ cs)
 |ref {id:X} {p:bm aZ} {t:aF} {τ':ah} {loc:Loc} {cs:ahS} (uZ:ar h id=Y t) (D4:aX w t.1 bo (rt id) p τ' loc cs):cN M w h rt fp (.ref id p) (cX τ' cs)
 |addr {id:X} {p:bm aZ} {t:aF} {τ':ah} {b o:X} {cs:ahS} (uZ:ar h id=Y t) (D4:aX w t.1 bo (rt id) p τ' (Y (b,o)) cs):cN M w h rt fp (.addr id p) (.pointer (Y ⟨b,o,bo⟩))
 |view {id:X} {p:bm aZ} {lo hi:X} {t:aF} {τ':ah} {loc:Loc} {b o len cap:X} (uZ:ar h id=Y t) (D4:aX w t.1 bo (rt id) p (.osl τ') loc [.slice (Y ⟨b,o,bo⟩) len cap]) (D1:lo<=hi) (VF:hi<=len) (aeO:len<=cap):cN M w h rt fp (.view id p lo hi) (.slice (Y ⟨b,if cap=lo then o else o+lo*τ'.size,bo⟩) (hi-lo) (cap-lo))
 |me (id:X) (p:bm aZ):cN M w h rt fp (.view id p 0 0) (.slice bo 0 0)
 |app {id:X} {p:bm aZ} {τ:ah} {ys:bm τ.den} {own:ahY} {t:aF} {loc:Loc} {ud:ahS} {xs:bm τ.den} {f1 f2:ahY} {v:Value} (uZ:ar h id=Y t) (aeR:τ.kF=bp) (D4:aX w t.1 bo (rt id) p (.osl τ) loc ud) (M7:eN t.1 t.2 p (.osl τ) xs) (D1:aR M w (.osl τ) ud xs f1) (aeP:∀b∈f1,b∈fp id) (VF:aR M w (.osl τ) [v] (xs++ys) f2) (aeU:∀i∈own,i≠id/\∃u,ar h i=Y u) (aeV:∀b∈f2,b∈f1\/∃i∈own,b∈fp i) (aeS:f2.Nodup):cN M w h rt fp (.app id p τ ys own) v
 |fe {l:bm ak} {vs:ahQ} (D3:l.length=vs.size) (D2:∀(i:X) (a:ak) (v:Value),l[i]?=Y a->vs[i]?=Y v->cN M w h rt fp a v):cN M w h rt fp (.fe l) (.tuple vs)
 |agg {l:bm ak} {vs:ahS} (D3:l.length=vs.length) (D2:∀(i:X) (a:ak) (v:Value),l[i]?=Y a->vs[i]?=Y v->cN M w h rt fp a v):cN M w h rt fp (.agg l) (.agg (vs.map λv=>v.cells.toList).flatten.toArray)
 |ent {id:X} {p:bm aZ} {k:Z} {t:aF} {τ':ah} {loc:Loc} {b c i:X} {e2:bU cn} {e:cn} (uZ:ar h id=Y t) (D4:aX w t.1 bo (rt id) p (.mp τ') loc [.map (Y b)]) (VJ:b∈fp id) (M8:iS w b=Y (e2,c)) (hi:e2[i]?=Y e) (aeQ:e.key=.int .i64 k):cN M w h rt fp (.ent id p k) (.int .i64 (e.born:Z))
 |eA {f:X} {l:bm ak} {vs:ahQ} (D3:l.length=vs.size) (D2:∀(i:X) (a:ak) (v:Value),l[i]?=Y a->vs[i]?=Y v->cN M w h rt fp a v):cN M w h rt fp (.eA f l) (.func (.func f) #[] vs)
 |hy {a:ak} {v:Value} {b:X} (VJ:M .bg b) (hc:w.cell? ⟨b,0,bo⟩=Y v) (aeT:v.oneCell'=bp) (HS:cN M w h rt fp a v):cN M w h rt fp (.hy a) (.pointer (Y ⟨b,0,bo⟩))
structure cM (C:eX) (st:aO) (J5:ahQ) (w:bD) (I:X->Prop) (rt:X->ahS) (fp:X->ahY):Prop where
 n:J5.size=C.n
 i0:∀b,C.I0 b->I b
 i1:∀b,I b->C.I0 b\/C.w0.heap.size<=b\/C.F0 b
 ib:∀b,I b\/C.B b->b<w.heap.size
 tree:∀id t,ar st.h id=Y t->aR (bb I C.B) w t.1 (rt id) t.2 (fp id)/\(fp id).Nodup/\∀b∈fp id,¬I b/\¬C.B b/\b<w.heap.size/\(C.w0.heap.size<=b\/C.F0 b)
 dis:∀i j t u,ar st.h i=Y t->ar st.h j=Y u->i≠j->∀b∈fp i,b∉fp j
 tmp:∀k,cN (bb I C.B) w st.h rt fp (gt st.g k) (J5.getD k bW)
 frame:∀b,b<C.w0.heap.size->¬C.F0 b->w.heap[b]?=C.w0.heap[b]?
 evo:∀b,b<C.w0.heap.size->kO C.w0 w b
 size:C.w0.heap.size<=w.heap.size
 os:w.os=C.w0.os
 tape:w.tape=C.w0.tape
 output:w.output=C.w0.output
 pin:∀k∈C.pin,J5.getD k bW=C.vs k
def gJ (a:eX) (e:aO) (f:ahQ) (g:bD):Prop:=∃b d c,cM a e f g b d c
structure hj (w w':bD):Prop where
 os:w'.os=w.os
 tape:w'.tape=w.tape
 output:w'.output=w.output
 size:w.heap.size<=w'.heap.size
 heap:∀b,b<w.heap.size->w'.heap[b]?=w.heap[b]?
def hj.refl (a:bD):hj a a:=⟨bn,bn,bn,bc _,λ_ _=>rfl⟩
def hj.trans {c d e:bD} (a:hj c d) (b:hj d e):hj c e:=
 ⟨b.os.trans a.os,b.tape.trans a.tape,b.output.trans a.output,eD a.size b.size,λg f=>(b.heap g (i6 f a.size)).trans (a.heap g f)⟩
def hj.drew {b c:bD} (a:hj b c):hj b c.drew:=⟨a.os,a.tape,a.output,a.size,a.heap⟩
theorem hj.alloc (a:bD) (b:Obj):hj a (a.alloc b):=⟨bn,bn,bn,ac,λc d=>by
 show(a.heap.push b)[c]?=_;grind⟩
theorem cN.mono {u x:eC->X->Prop} {r t:bD} {v z:bm (X×aF)} {w D:X->ahS} {s y:X->ahY} (n:∀B c,u B c->x B c/\c5 r t c) (d:∀id m,ar v id=Y m->aR u r m.1 (w id) m.2 (s id)/\∀c∈s id,c5 r t c) {j:ak} {b:Value} (F:cN u r v w s j b) (o:∀id m,ar v id=Y m->ar z id=Y m/\D id=w id/\y id=s id):cN x t z D y j b:=by
 induction F with
 |dead b=>exact .dead b
 |dg b=>exact .dg b
 |val S=>exact .val (S.mono n ac)
 |ref a g=>
  obtain⟨h,i,_⟩:=o _ _ a;exact .ref h (by rw[i];exact g.sm (d _ _ a).1 (d _ _ a).2)
 |addr a g=>
  obtain⟨h,i,_⟩:=o _ _ a;exact .addr h (by rw[i];exact g.sm (d _ _ a).1 (d _ _ a).2)
 |me id C=>exact .me id C
 |view a g e f E=>
  obtain⟨h,i,_⟩:=o _ _ a;exact .view h (by rw[i];exact g.sm (d _ _ a).1 (d _ _ a).2) e f E
 |@app id C τ av an m am T ap U f2 b a N g J e H f V ad O=>
  obtain⟨h,i,R⟩:=o _ _ a;obtain⟨Q,A⟩:=d _ _ a;have I:∀c∈f2,c5 r t c:=λc k=>(by grind);refine .app h N (by rw[i];exact g.sm Q A) J (e.mono n (λc k=>A c (H c k))) (by grind) (f.mono n I) ?_ ?_ O
  ·grind
  grind
 |ent a g k M K L=>
  obtain⟨h,i,R⟩:=o _ _ a;exact .ent h (by rw[i];exact g.sm (d _ _ a).1 (d _ _ a).2) (by grind) (by rw[((d _ _ a).2 _ k).2];exact M) K L
 |fe p _ l=>exact .fe p (λq j b e f=>l q j b e f)
 |agg p _ l=>exact .agg p (λq j b e f=>l q j b e f)
 |eA p _ l=>exact .eA p (λq j b e f=>l q j b e f)
 |hy k G P _ l=>exact .hy (n _ _ k).1 (by rw[((n _ _ k).2.1 0).1];exact G) P l
def aT (c:bm (X×ak)):bM->ak
 |.tmp g=>gt c g
 |.const (.int d e)=>.val (.int d) e
 |.const (.bool a)=>.val .bool a
 |.const (.string f)=>.val .str f
 |.const h=>.dg h
 |.func b=>.eA b []
 |.global _=>.dead
def cN.int {c:eC->X->Prop} {g:bD} {e:bm (X×aF)} {f:X->ahS} {d:X->ahY} (a:cu) (b:Z):cN c g e f d (.val (.int a) b) (.int a b):=
 .val (τ:=.int a) (cs:=[.int a b]) ⟨bn,bn⟩
def cN.bool {b:eC->X->Prop} {f:bD} {d:bm (X×aF)} {e:X->ahS} {c:X->ahY} (a:bA):cN b f d e c (.val .bool a) (.bool a):=
 .val (τ:=.bool) (cs:=[.bool a]) ⟨bn,bn⟩
def cN.str {b:eC->X->Prop} {f:bD} {d:bm (X×aF)} {e:X->ahS} {c:X->ahY} (a:ByteArray):cN b f d e c (.val .str a) (.string a):=
 .val (τ:=.str) (cs:=[.string a]) ⟨bn,bn⟩
def cM.aT {e:eX} {c:aO} {a:Act} {l:bD} {f:X->Prop} {j:X->ahS} {i:X->ahY} (m:cM e c a.tmps l f j i) (d:bM):cN (bb f e.B) l c.h j i (aT c.g d) (a.eval d):=by
 cases d with
 |tmp o=>exact m.tmp o
 |const p=>
  cases p<;>simp only[jf.aT,Act.eval]
  case int k n=>exact .int k n
  case bool b=>exact .bool b
  case string s=>exact .str s
  all_goals exact .dg _
 |func q=>exact .eA (vs:=#[]) ac ac
 |global r=>exact .dead _
theorem kC {d:Type}:∀(c b:bm (X×d)) (a:X),ar (c++b) a=(ar c a).or (ar b a)
 |[],b,a=>by simp[ar]
 |(k,v)::c,b,a=>by rw[nW,dh,dh,kC c b a];grind
theorem iQ (c:X) (b:ak) (d:bm (X×ak)) (a:X):gt ((c,b)::d) a=if c=a then b else gt d a:=by grind [dh,gt]
theorem cM.put (a:cM U O z f j p q) (e:U.ok b) {av:ak} {v:Value} (l:cN (bb j U.B) f O.h p q av v):cM U ⟨(b,av)::O.g,O.h⟩ (z.setIfInBounds b v) f j p q where
 n:=by simpa using a.n
 i0:=a.i0
 i1:=a.i1
 ib:=a.ib
 tree:=a.tree
 dis:=a.dis
 tmp:=λc=>by
  show cN _ _ _ _ _ (gt ((b,av)::O.g) c) _;unfold gt;rw[dh];have k:b<z.size:=(by rw[a.n];exact e.1);by_cases d:b=c
  ·simp_all
  rw[ax d];have:(z.setIfInBounds b v).getD c bW=z.getD c undef:=(by simp_all);rw[this];exact a.tmp c
 frame:=a.frame
 evo:=a.evo
 size:=a.size
 os:=a.os
 tape:=a.tape
 output:=a.output
 pin:=λc d=>by have:b≠c:=λi=>e.2 (i▸d);rw[<-a.pin c d];simp_all
structure v7 (C:eX) (st:aO) (w w':bD) (I':X->Prop) (new:bm (X×aF)) (rtn:X->ahS) (fpn:X->ahY):Prop where
 tree:∀id t,ar new id=Y t->ar st.h id=bo/\aR (bb I' C.B) w' t.1 (rtn id) t.2 (fpn id)/\(fpn id).Nodup/\∀b∈fpn id,w.heap.size<=b/\b<w'.heap.size/\¬I' b
 dis:∀i j t u,ar new i=Y t->ar new j=Y u->i≠j->∀b∈fpn i,b∉fpn j
def v7.nil:v7 U O f m j [] p q:=
 ⟨(λ_ _ a=>by cases a),(λ_ _ _ _ a=>by cases a)⟩
theorem v7.one {C:eX} {st:aO} {w':bD} {I':X->Prop} {id:X} {t:aF} {cs:ahS} {f:ahY} (l:ar st.h id=bo) (n:aR (bb I' C.B) w' t.1 cs t.2 f) (j:f.Nodup) (i:∀a∈f,m.heap.size<=a/\a<w'.heap.size/\¬I' a):v7 C st m w' I' [(id,t)] (λ_=>cs) (λ_=>f) where
 tree:=λe g b=>by
  rw[dh] at b;split at b
  ·grind
  cases b
 dis:=λe o p g c d k=>by
  rw[dh] at c d;split at c
  ·split at d
   ·omega
   cases d
  cases c
def fi (d:bm (X×aF)) {a:Type} (b c:X->a):X->a:=λid=>match ar d id with|some _=>b id|none=>c id
theorem cM.ext {I':X->Prop} {rtn:X->ahS} {fpn:X->ahY} (d:cM U O z f j p q) (e:hj f m) (y:∀a,j a->I' a) (A:∀a,I' a->j a\/(f.heap.size<=a/\a<m.heap.size)) {new:bm (X×aF)} (s:v7 U O f m I' new rtn fpn):cM U ⟨O.g,new++O.h⟩ z m I' (fi new rtn p) (fi new fpn q):=by
 have I:∀w a,bb j U.B w a->bb I' U.B w a/\c5 f m a:=λw a b=>by
  refine⟨?_,.of_heap (e.heap a (d.ib a (mX b)))⟩;cases w
  ·exact y a b
  exact b.imp (y a) id
 have S:∀id c,ar O.h id=Y c->ar (new++O.h) id=Y c/\fi new rtn p id=p id/\fi new fpn q id=q id:=λid c k=>by
  have:ar new id=bo:=by
   cases P:ar new id with
   |none=>rfl
   |some l=>have:=(s.tree id l P).1;grind
  grind [kC,fi]
 have C:∀id c,ar (new++O.h) id=Y c->(ar new id=Y c/\fi new rtn p id=rtn id/\fi new fpn q id=fpn id)\/(ar O.h id=Y c/\fi new rtn p id=p id/\fi new fpn q id=q id):=λid c k=>(by grind [kC,ar,fi]);have J:∀id c,ar O.h id=Y c->∀a∈q id,c5 f m a:=λid c k a b=>.of_heap (e.heap a ((d.tree id c k).2.2 a b).2.2.1);refine{n:=d.n,i0:=λa b=>y a (d.i0 a b),i1:=?_,ib:=?_,tree:=?_,dis:=?_,tmp:=?_,frame:=?_,evo:=λa b=>(d.evo a b).trans (.of_heap (e.heap a (i6 b d.size))),size:=eD d.size e.size,os:=e.os.trans d.os,tape:=e.tape.trans d.tape,output:=e.output.trans d.output,pin:=d.pin}
 ·intro a b;rcases A a b with b|⟨b,_⟩
  ·exact d.i1 a b
  exact .inr (.inl (eD d.size b))
 ·intro a b;rcases b with b|b
  ·rcases A a b with b|⟨_,b⟩
   ·exact i6 (d.ib a (.inl b)) e.size
   omega
  exact i6 (d.ib a (.inr b)) e.size
 ·intro id c k;rcases C id c k with⟨i,x,o⟩|⟨i,x,o⟩
  ·obtain⟨_,aw,D,E⟩:=s.tree id c i;rw[x,o];refine⟨aw,D,λa b=>?_⟩;obtain⟨F,G,H⟩:=E a b;exact⟨H,λM=>by have:=d.ib a (.inr M);omega,G,.inl (eD d.size F)⟩
  obtain⟨aw,D,E⟩:=d.tree id c i;rw[x,o];refine⟨aw.mono I (J id c i),D,λa b=>?_⟩;obtain⟨F,G,H,aJ⟩:=E a b;exact⟨λr=>(A a r).elim F (λV=>by omega),G,i6 H e.size,aJ⟩
 ·intro t u c l Q R K a b;rcases C t c Q with⟨i,_,o⟩|⟨i,_,o⟩<;>rcases C u l R with⟨v,_,L⟩|⟨v,_,L⟩<;>rw[o] at b<;>rw[L]
  ·exact s.dis t u c l i v K a b
  ·intro r;have:=((s.tree t c i).2.2.2 a b).1;have:=((d.tree u l v).2.2 a r).2.2.1;omega
  ·intro r;have:=((s.tree u l v).2.2.2 a r).1;have:=((d.tree t c i).2.2 a b).2.2.1;omega
  exact d.dis t u c l i v K a b
 ·intro T;exact(d.tmp T).mono I (λid c k=>⟨(d.tree id c k).1,J id c k⟩) S
 intro a b N;rw[e.heap a (i6 b d.size)];exact d.frame a b N
def cM.VD (a:cM U O z f j p q) (b:hj f m):cM U O z m j p q:=by have:=a.ext (rtn:=p) (fpn:=q) b (λ_ a=>a) (λ_ a=>.inl a) (new:=[]) .nil;exact this
def oW:bm (X×ak)->aO->Prop
 |[],_=>True
 |(k,av)::r,st=>gt st.g k=av/\oW r st
def oX:bm (X×aF)->aO->Prop
 |[],_=>True
 |(k,t)::r,st=>ar st.h k=Y t/\oX r st
def oW.get {b:bm (X×ak)} (c:oW b O):∀a,gt b a=.dead\/gt b a=gt O.g a:=by
 induction b with
 |nil=>exactλa=>.inl bn
 |cons f b e=>
  obtain⟨i,h⟩:=f;intro a;rw[iQ];split
  ·rename_i d;subst d;exact .inr c.1.symm
  exact e c.2 a
def oX.get (c:oX u O):∀a b,ar u a=Y b->ar O.h a=Y b:=by
 induction u with
 |nil=>intro a b c;cases c
 |cons g u f=>
  obtain⟨j,i⟩:=g;intro a b d;rw[dh] at d;split at d
  ·rename_i e;subst e;rw[<-d];exact c.1
  exact f c.2 a b d
mutual
def ak.ids:ak->ahY
 |.dead|.val _ _|.dg _=>[]
 |.ref id _|.addr id _|.view id _ _ _|.ent id _ _=>[id]
 |.app id _ _ _ c=>id::c
 |.fe a|.agg a|.eA _ a=>ak.oh a
 |.hy b=>b.ids
def ak.oh:bm ak->ahY
 |[]=>[]
 |a::b=>a.ids++ak.oh b
end
theorem ak.Ag {l:bm ak} {i:X} (a:l[i]?=Y V) {id:X} (b:id∈V.ids):id∈ak.oh l:=by
 induction l generalizing i with
 |nil=>grind
 |cons e d c=>
  grind [ak.oh]
theorem cN.s3 {x:eC->X->Prop} {z:bm (X×aF)} {D:X->ahS} {y:X->ahY} (s:∀B b,e B b->x B b/\c5 f m b) (F:cN e f u p q V R) (d:∀id∈V.ids,∀w,ar u id=Y w->ar z id=Y w/\D id=p id/\y id=q id/\aR e f w.1 (p id) w.2 (q id)/\∀b∈q id,c5 f m b):cN x m z D y V R:=by
 induction F with
 |dead R=>exact .dead R
 |dg R=>exact .dg R
 |val T=>exact .val (T.mono s ac)
 |ref h g=>
  obtain⟨i,j,_,o,k⟩:=d _ (by simp[ak.ids]) _ h;exact .ref i (by rw[j];exact g.sm o k)
 |addr h g=>
  obtain⟨i,j,_,o,k⟩:=d _ (by simp[ak.ids]) _ h;exact .addr i (by rw[j];exact g.sm o k)
 |me id C=>exact .me id C
 |view h g a c E=>
  obtain⟨i,j,_,o,k⟩:=d _ (by simp[ak.ids]) _ h;exact .view i (by rw[j];exact g.sm o k) a c E
 |@app id C a4 a3 av w ap U a0 ad f2 R h N g J a H c am an O=>
  obtain⟨i,j,S,Q,A⟩:=d _ (by simp[ak.ids]) _ h;have I:∀b∈f2,c5 f m b:=λb l=>(by grind [ak.ids]);refine .app i N (by rw[j];exact g.sm Q A) J (a.mono s (λb l=>A b (H b l))) (by grind) (c.mono s I) ?_ ?_ O
  ·grind [ak.ids]
  grind [ak.ids]
 |ent h g l M K L=>
  obtain⟨i,j,S,o,k⟩:=d _ (by simp[ak.ids]) _ h;exact .ent i (by rw[j];exact g.sm o k) (by grind) (by rw[(k _ l).2];exact M) K L
 |fe t _ n=>exact .fe t (λv V R a c=>n v V R a c (λid r=>d id (ak.Ag a r)))
 |agg t _ n=>exact .agg t (λv V R a c=>n v V R a c (λid r=>d id (ak.Ag a r)))
 |eA t _ n=>exact .eA t (λv V R a c=>n v V R a c (λid r=>d id (ak.Ag a r)))
 |hy l G P _ n=>exact .hy (s _ _ l).1 (by rw[((s _ _ l).2.1 0).1];exact G) P (n λid r=>d id (by grind [ak.ids]))
def cM.yQ {o:aO} (a:cM U o z f j p q) (v:oW O.g o) (d:oX O.h o) (w:∀c,∀id∈(gt O.g c).ids,(ar O.h id).isSome=bp):cM U O z f j p q where
 n:=a.n
 i0:=a.i0
 i1:=a.i1
 ib:=a.ib
 tree:=λid b e=>a.tree id b (d.get id b e)
 dis:=λs t b i m x=>a.dis s t b i (d.get s b m) (d.get t i x)
 tmp:=λc=>by
  rcases v.get c with l|l
  ·rw[l];exact .dead _
  have:=w c;rw[l] at this|-;refine(a.tmp c).s3 (λy k u=>⟨u,c5.refl f k⟩) (λid m b e=>?_);obtain⟨i,r⟩:=ak5.1 (this id m);have:=d.get id i r;rw[e] at this;obtain rfl:=gC this;exact⟨r,bn,bn,(a.tree id b e).1,λk _=>c5.refl f k⟩
 frame:=a.frame
 evo:=a.evo
 size:=a.size
 os:=a.os
 tape:=a.tape
 output:=a.output
 pin:=a.pin
def mw (a:bm (X×ak)) (b:bm (X×aF)):bA:=a.all λc=>c.2.ids.all λid=>(ar b id).isSome
theorem mw.get {a:bm (X×ak)} (f:mw a u=bp) (c:X):∀id∈(gt a c).ids,(ar u id).isSome=bp:=by
 intro id b;unfold gt at b;cases d:ar a c with
 |none=>grind [ak.ids]
 |some e=>
  rw[d] at b;have g:(c,e)∈a:=by
   clear f b
   induction a with
   |nil=>cases d
   |cons i j h=>
    grind [akk,aiL,dh]
  grind [ai5,mw]
section
mutual
def fj (P:b0):ah->bF->Prop
 |.int f,T=>∃a,P.info? T=Y a/\a.size=1/\a.bytes<=24/\a.zero=Y (.int f 0)/\P.underlying T=Y (.int f)
 |.bool,T=>∃a,P.info? T=Y a/\a.size=1/\a.bytes<=24/\a.zero=Y (.bool bq)/\P.underlying T=Y .bool
 |.str,T=>∃a,P.info? T=Y a/\a.size=1/\a.bytes<=24/\a.zero=Y (.string ako)/\P.underlying T=Y .string
 |.a2 _ b,T=>∃a E,P.info? T=Y a/\a.size=1/\a.bytes<=24/\a.zero=Y (.slice bo 0 0)/\P.underlying T=Y (.slice E)/\fj P b E
 |.osl b,T=>∃a E,P.info? T=Y a/\a.size=1/\a.bytes<=24/\a.zero=Y (.slice bo 0 0)/\P.underlying T=Y (.slice E)/\fj P b E
 |.ptr _ b,T=>∃a E,P.info? T=Y a/\a.size=1/\a.bytes<=24/\a.zero=Y (.pointer bo)/\P.underlying T=Y (.pointer E)/\fj P b E
 |.optr b,T=>∃a E,P.info? T=Y a/\a.size=1/\a.bytes<=24/\a.zero=Y (.pointer bo)/\P.underlying T=Y (.pointer E)/\fj P b E
 |.st b,T=>0<b.size/\∃a e d,P.info? T=Y a/\a.size=b.size/\a.bytes<=24*b.size/\a.zero=Y (.agg d)/\P.underlying T=Y (.struct e)/\iD P b e.toList 0 d.toList/\d.size=b.size
 |.mp b,T=>∃a c E,P.info? T=Y a/\a.size=1/\a.bytes<=24/\a.zero=Y (.map bo)/\P.underlying T=Y (.map c E)/\P.underlying c=Y (.int .i64)/\fj P b E
 |.fx _ b,T=>∃a c E,P.info? T=Y a/\a.size=1/\a.bytes<=24/\a.zero=Y (.map bo)/\P.underlying T=Y (.map c E)/\P.underlying c=Y (.int .i64)/\fj P b E
 |.fn _ _,T=>∃a g h i,P.info? T=Y a/\a.size=1/\a.bytes<=24/\a.zero=Y .nilFunc/\P.underlying T=Y (.func g h i)
 |_,_=>b6
def iD (P:b0):ah->bm aio->X->ahS->Prop
 |.pr a g,c::h,e,b=>c.offset=e/\fj P a c.type/\0<a.size/\(∃d f,P.info? c.type=Y d/\d.zero=Y f/\b.take a.size=f.cells.toList)/\iD P g h (e+a.size) (b.drop a.size)
 |.nil,[],_,b=>b=[]
 |_,_,_,_=>b6
end
def o6:ah->bA
 |.st _=>bp
 |_=>bq
structure Sc (P:b0) (τ:ah) (T:bF) (i:TypeInfo):Prop where
 info:P.info? T=Y i
 size:i.size=τ.size
 bytes:i.bytes<=24*τ.size
 pos:0<τ.size
def fj.info {P:b0}:∀{τ:ah} {T:bF},fj P τ T->∃a g,Sc P τ T a/\P.underlying T=Y g/\(match g with|.struct _|.array _ _=>bp|_=>bq)=o6 τ
 |.int _,_,⟨a,b,c,d,_,e⟩=>⟨a,_,⟨b,c,d,by simp[ah.size]⟩,e,bn⟩
 |.bool,_,⟨a,b,c,d,_,e⟩=>⟨a,_,⟨b,c,d,by simp[ah.size]⟩,e,bn⟩
 |.str,_,⟨a,b,c,d,_,e⟩=>⟨a,_,⟨b,c,d,by simp[ah.size]⟩,e,bn⟩
 |.a2 _ _,_,⟨a,_,b,c,d,_,e,_⟩=>⟨a,_,⟨b,c,d,by simp[ah.size]⟩,e,bn⟩
 |.osl _,_,⟨a,_,b,c,d,_,e,_⟩=>⟨a,_,⟨b,c,d,by simp[ah.size]⟩,e,bn⟩
 |.ptr _ _,_,⟨a,_,b,c,d,_,e,_⟩=>⟨a,_,⟨b,c,d,by simp[ah.size]⟩,e,bn⟩
 |.optr _,_,⟨a,_,b,c,d,_,e,_⟩=>⟨a,_,⟨b,c,d,by simp[ah.size]⟩,e,bn⟩
 |.st i,_,⟨h,a,_,_,b,c,d,_,e,_⟩=>⟨a,_,⟨b,c,d,h⟩,e,bn⟩
 |.pr _ _,_,f=>f.elim
 |.nil,_,f=>f.elim
 |.eL,_,f=>f.elim
 |.mp _,_,⟨a,_,_,b,c,d,_,e,_⟩=>⟨a,_,⟨b,c,d,by simp[ah.size]⟩,e,bn⟩
 |.fx _ _,_,⟨a,_,_,b,c,d,_,e,_⟩=>⟨a,_,⟨b,c,d,by simp[ah.size]⟩,e,bn⟩
 |.fn _ _,_,⟨a,_,_,_,b,c,d,_,e⟩=>⟨a,_,⟨b,c,d,by simp[ah.size]⟩,e,bn⟩
theorem fj.HT {P:b0}:∀{τ:ah} {T:bF},fj P τ T->∃g,g.cells.size=τ.size/\∀d,P.info? T=Y d->d.zero=Y g
 |.int _,_,⟨d,a,_,_,b,_⟩|.bool,_,⟨d,a,_,_,b,_⟩|.str,_,⟨d,a,_,_,b,_⟩=>⟨_,bn,λf c=>by rw[a] at c;cases c;exact b⟩
 |.a2 _ _,_,⟨d,_,a,_,_,b,_⟩|.osl _,_,⟨d,_,a,_,_,b,_⟩|.ptr _ _,_,⟨d,_,a,_,_,b,_⟩|.optr _,_,⟨d,_,a,_,_,b,_⟩=>⟨_,bn,λf c=>by rw[a] at c;cases c;exact b⟩
 |.st n,_,⟨j,d,_,i,a,k,l,b,m,_,h⟩=>⟨.agg i,h,λf c=>by grind⟩
 |.pr _ _,_,e=>e.elim
 |.nil,_,e=>e.elim
 |.eL,_,e=>e.elim
 |.mp _,_,⟨d,_,_,a,_,_,b,_⟩=>⟨_,bn,λf c=>by rw[a] at c;cases c;exact b⟩
 |.fx _ _,_,⟨d,_,_,a,_,_,b,_⟩=>⟨_,bn,λf c=>by rw[a] at c;cases c;exact b⟩
 |.fn _ _,_,⟨d,_,_,_,a,_,_,b,_⟩=>⟨_,bn,λf c=>by rw[a] at c;cases c;exact b⟩
section
variable {P:b0} {τ:ah} {T:bF}
def fj.sizeOf (c:fj P τ T) (b:bD):(aiM T).run P b=.ok τ.size b:=by obtain⟨e,d,a,_⟩:=c.info;simp[aiM,aiw,a.info,a.size]
def fj.isAgg (c:fj P τ T) (a:bD):(Go.isAgg T).run P a=.ok (o6 τ) a:=by obtain⟨g,b,f,e,d⟩:=c.info;simp only[Go.isAgg,bY,b8 e,b1];rw[<-d];cases b<;>rfl
def fj.pos (a:fj P τ T):0<τ.size:=by obtain⟨d,c,b,_⟩:=a.info;exact b.pos
def Je:∀{τ:ah} {T:bF},fj P τ T->o6 τ=bq->τ.size=1
 |.int _,_,_,_|.bool,_,_,_|.str,_,_,_|.a2 _ _,_,_,_|.osl _,_,_,_|.ptr _ _,_,_,_|.optr _,_,_,_|.mp _,_,_,_|.fx _ _,_,_,_|.fn _ _,_,_,_=>rfl
 |.st _,_,_,a=>by cases a
 |.pr _ _,_,a,_=>a.elim
 |.nil,_,a,_=>a.elim
 |.eL,_,a,_=>a.elim
def E0 (a:o6 τ=bq):cX τ g=g.headD undef:=by cases τ<;>first|rfl|cases a
def E1 (a:o6 τ=bp):cX τ g=.agg g.toArray:=by cases τ<;>first|rfl|cases a
theorem ow (d:fj P τ T) (c:g.length=τ.size) (e:∀a∈g,a.oneCell'=bp):(cX τ g).cells=g.toArray:=by
 cases b:o6 τ with
 |true=>rw[E1 b];rfl
 |false=>
  rw[E0 b];rw[Je d b] at c;obtain⟨a,rfl⟩:=qB.1 c;have:=e a ac;cases a<;>first|rfl|grind [aim]
theorem JG {w:bD} {b o:X} {cs:ahS} (a:fj P τ T) (e:fr w b o cs) (c:cs.length=τ.size):(loadVar T ⟨b,o,bo⟩).run P w=.ok (cX τ cs) w:=by
 simp only[loadVar,bY,a.isAgg,b1];cases g:o6 τ with
 |true=>
  simp only[cf,bY,a.sizeOf,b1];rw[<-c,run_loadCells_list w ⟨b,o,bo⟩ cs (λh d f=>by rw[aiU];exact e h d f)];simp_all [E1]
 |false=>
  rw[Je a g] at c;obtain⟨d,rfl⟩:=qB.1 c;have:=e 0 d bn;simp_all [E0,nc]
end
def mf:(τ:ah)->bv τ.den
 |.int _=>Y (0:Z)
 |.bool=>Y bq
 |.str=>Y ako
 |.a2 _ _=>Y []
 |.osl _=>Y []
 |.ptr _ _=>Y bo
 |.optr _=>bo
 |.st c=>mf c
 |.pr a b=>match mf a,mf b with|some d,some e=>Y (d,e)|_,_=>bo
 |.nil=>Y ()
 |.eL=>bo
 |.mp _=>Y bo
 |.fx _ _=>Y bo
 |.fn _ _=>bo
mutual
theorem vK {P:b0}:∀{τ:ah} {T:bF} {g:τ.den},fj P τ T->mf τ=Y g->∃b l,P.info? T=Y b/\b.zero=Y l/\l=cX τ l.cells.toList/\∀(e:eC->X->Prop) (f:bD),aR e f τ l.cells.toList g []
 |.int p,_,g,⟨b,c,h,i,d,j⟩,a=>⟨b,_,c,d,bn,λe f=>by cases a;exact⟨bn,bn⟩⟩
 |.bool,_,g,⟨b,c,h,i,d,j⟩,a=>⟨b,_,c,d,bn,λe f=>by cases a;exact⟨bn,bn⟩⟩
 |.str,_,g,⟨b,c,h,i,d,j⟩,a=>⟨b,_,c,d,bn,λe f=>by cases a;exact⟨bn,bn⟩⟩
 |.a2 _ _,_,g,⟨b,_,c,h,i,d,j,_⟩,a=>⟨b,_,c,d,bn,λe f=>by cases a;exact⟨bn,bo,0,bn,bc _,λ_=>rfl,.inl bn⟩⟩
 |.osl _,_,g,⟨b,_,c,h,i,d,j,_⟩,a=>⟨b,_,c,d,bn,λe f=>by cases a;exact⟨bo,0,bn,.inl ⟨bn,bn,bn,bn⟩⟩⟩
 |.ptr _ _,_,g,⟨b,_,c,h,i,d,j,_⟩,a=>⟨b,_,c,d,bn,λe f=>by cases a;exact⟨bn,bn⟩⟩
 |.optr _,_,_,_,a=>by cases a
 |.st n,_,g,⟨_,b,o,q,c,h,i,d,j,m,_⟩,a=>⟨b,_,c,d,bn,λe f=>Rz (τ:=n) m a e f⟩
 |.pr _ _,_,_,k,_=>k.elim
 |.nil,_,_,k,_=>k.elim
 |.eL,_,_,k,_=>k.elim
 |.mp _,_,g,⟨b,_,_,c,h,i,d,j,_⟩,a=>⟨b,_,c,d,bn,λe f=>by cases a;exact⟨bn,bn⟩⟩
 |.fx _ _,_,g,⟨b,_,_,c,h,i,d,j,_⟩,a=>⟨b,_,c,d,bn,λe f=>by cases a;exact⟨bn,bn⟩⟩
 |.fn _ _,_,_,_,a=>by cases a
theorem Rz {P:b0}:∀{τ:ah} {l:bm aio} {g:X} {f:ahS} {e:τ.den},iD P τ l g f->mf τ=Y e->∀(b:eC->X->Prop) (d:bD),aR b d τ f e []
 |.pr j k,r::x,g,f,e,a,c,b,d=>by
  obtain⟨s,m,t,⟨u,B,aw,q,w⟩,n⟩:=a;simp only[mf] at c;split at c
  ·rename_i z A o p;cases c;obtain⟨v,C,h,i,_,y⟩:=vK (τ:=j) m o;rw[aw] at h;obtain rfl:=gC h;rw[q] at i;obtain rfl:=gC i;exact⟨[],[],bn,by grind,Rz (τ:=k) n p b d⟩
  grind
 |.nil,[],_,f,e,a,c,b,d=>⟨bn,a⟩
 |.pr _ _,[],_,_,_,a,_,_,_=>a.elim
 |.nil,_::_,_,_,_,a,_,_,_=>a.elim
 |.int _,_,_,_,_,a,_,_,_=>by cases a
 |.bool,_,_,_,_,a,_,_,_=>by cases a
 |.str,_,_,_,_,a,_,_,_=>by cases a
 |.a2 _ _,_,_,_,_,a,_,_,_=>by cases a
 |.osl _,_,_,_,_,a,_,_,_=>by cases a
 |.ptr _ _,_,_,_,_,a,_,_,_=>by cases a
 |.optr _,_,_,_,_,a,_,_,_=>by cases a
 |.st _,_,_,_,_,a,_,_,_=>by cases a
 |.eL,_,_,_,_,a,_,_,_=>by cases a
 |.mp _,_,_,_,_,a,_,_,_=>by cases a
 |.fx _ _,_,_,_,_,a,_,_,_=>by cases a
 |.fn _ _,_,_,_,_,a,_,_,_=>by cases a
end
def a7:ah->ah->bA
 |.int g,.int h=>if g=h then bp else bq
 |.bool,.bool|.str,.str|.nil,.nil=>bp
 |.a2 _ a,.a2 _ b|.a2 _ a,.osl b|.osl a,.a2 _ b|.osl a,.osl b=>a7 a b
 |.ptr _ a,.ptr _ b|.ptr _ a,.optr b|.optr a,.ptr _ b|.optr a,.optr b=>a7 a b
 |.st a,.st b=>a7 a b
 |.mp a,.mp b|.mp a,.fx _ b|.fx _ a,.mp b|.fx _ a,.fx _ b=>a7 a b
 |.fn _ _,.fn _ _=>bp
 |.pr c d,.pr e f=>a7 c e&&a7 d f
 |_,_=>bq
theorem a7.size:∀{τ b:ah},a7 τ b=bp->τ.size=b.size:=by
 intro τ
 induction τ with
 |st h c=>intro b a;cases b<;>simp only[a7] at a<;>first|(simp only[ah.size];exact c a)|cases a
 |pr d e f g=>
  intro b a;cases b<;>simp only[a7] at a<;>try (cases a;done)
  simp only[cC] at a;grind [ah.size]
 |_=>intro b a;cases b<;>simp[a7] at a<;>simp[ah.size]
mutual
theorem fj.lay {P:b0}:∀{τ c:ah} {T:bF},a7 τ c=bp->fj P τ T->fj P c T
 |.int q,c,_,a,b=>by cases c<;>simp[a7] at a;grind
 |.bool,c,_,a,b=>by grind [a7]
 |.str,c,_,a,b=>by grind [a7]
 |.a2 _ k,c,_,a,b=>by obtain⟨h,E,d,i,j,e,f,g⟩:=b;cases c<;>simp only[a7] at a<;>first|exact⟨h,E,d,i,j,e,f,fj.lay a g⟩|cases a
 |.osl k,c,_,a,b=>by obtain⟨h,E,d,i,j,e,f,g⟩:=b;cases c<;>simp only[a7] at a<;>first|exact⟨h,E,d,i,j,e,f,fj.lay a g⟩|cases a
 |.ptr _ k,c,_,a,b=>by obtain⟨h,E,d,i,j,e,f,g⟩:=b;cases c<;>simp only[a7] at a<;>first|exact⟨h,E,d,i,j,e,f,fj.lay a g⟩|cases a
 |.optr k,c,_,a,b=>by obtain⟨h,E,d,i,j,e,f,g⟩:=b;cases c<;>simp only[a7] at a<;>first|exact⟨h,E,d,i,j,e,f,fj.lay a g⟩|cases a
 |.st k,c,_,a,b=>by
  obtain⟨p,h,n,o,d,i,j,e,f,g,l⟩:=b;cases c<;>simp only[a7] at a<;>try (cases a;done)
  have:=a7.size a;exact⟨aa,h,n,o,d,aa,aa,e,f,iD.lay a g,aa⟩
 |.pr _ _,_,_,_,b=>b.elim
 |.nil,_,_,_,b=>b.elim
 |.eL,_,_,_,b=>b.elim
 |.mp k,c,_,a,b=>by obtain⟨h,m,E,d,i,j,e,f,g,l⟩:=b;cases c<;>simp only[a7] at a<;>first|exact⟨h,m,E,d,i,j,e,f,g,fj.lay a l⟩|cases a
 |.fx _ k,c,_,a,b=>by obtain⟨h,m,E,d,i,j,e,f,g,l⟩:=b;cases c<;>simp only[a7] at a<;>first|exact⟨h,m,E,d,i,j,e,f,g,fj.lay a l⟩|cases a
 |.fn _ _,c,_,a,b=>by cases c<;>simp only[a7] at a<;>first|exact b|cases a
theorem iD.lay {P:b0}:∀{τ c:ah} {f:bm aio} {d:X} {e:ahS},a7 τ c=bp->iD P τ f d e->iD P c f d e
 |.pr k l,c,m::o,d,e,b,a=>by
  obtain⟨g,h,n,i,j⟩:=a;cases c<;>simp only[a7] at b<;>try (cases b;done)
  simp only[cC] at b;have:=a7.size b.1;exact⟨g,fj.lay b.1 h,aa,by rw[<-this];exact i,by rw[<-this];exact iD.lay b.2 j⟩
 |.nil,c,[],_,_,b,a=>by grind [a7]
 |.pr _ _,_,[],_,_,_,a=>a.elim
 |.nil,_,_::_,_,_,_,a=>a.elim
 |.int _,_,_,_,_,_,a=>by cases a
 |.bool,_,_,_,_,_,a=>by cases a
 |.str,_,_,_,_,_,a=>by cases a
 |.a2 _ _,_,_,_,_,_,a=>by cases a
 |.osl _,_,_,_,_,_,a=>by cases a
 |.ptr _ _,_,_,_,_,_,a=>by cases a
 |.optr _,_,_,_,_,_,a=>by cases a
 |.st _,_,_,_,_,_,a=>by cases a
 |.eL,_,_,_,_,_,a=>by cases a
 |.mp _,_,_,_,_,_,a=>by cases a
end
structure tW where
 b:X
 T:bF
 k:cu
 xs:ahZ
def KM (P:b0) (a:tW):Prop:=∃b,P.underlying a.T=Y (.array a.xs.length b)/\fj P (.int a.k) b
def Kw (P:b0) (T:bF):Prop:=P.stoodInHeld T=bq/\P.eqGuardType P.depth T=bq/\∃a,P.underlying T=Y (.struct a)/\(a.toList.all λb=>b.name !="_")=bp
structure fB where
 P:b0
 tt:bm (bF×ah)
 ok:∀T τ,ar tt T=Y τ->fj P τ T
 mix:P.follows .mixedOrders=bp
 glob:bm tW:=[]
 gok:∀g∈glob,KM P g:=by intro g h;cases h
 eqs:ahR:=[]
 eqok:∀T∈eqs,Kw P T:=by intro T h;cases h
end
section
def hB:X:=4294967296
def ao {b:Type} (c:bm b) (a:Z):bv b:=if 0<=a then c[a.toNat]? else bo
theorem MY {b:bm N} {a:Z} {c:N} (d:ao b a=Y c):a=(a.toNat:Z)/\a.toNat<b.length/\b[a.toNat]?=Y c:=by grind [aiF,ao]
inductive h6 where
 |e4 (av:ak) (new:bm (X×aF))
 |part (α:Type) (φ:α->Prop) (f:α->ak×bm (X×aF))
 |bad
def h6.K (e:h6) (Q:ak->bm (X×aF)->Prop):Prop:=
 match e with
 |.e4 c d=>Q c d
 |.part f g b=>∃a:f,g a/\Q (b a).1 (b a).2
 |.bad=>b6
def ah.pure:ah->bA
 |.osl _|.optr _|.eL|.mp _=>bq
 |.st c=>c.pure
 |.pr a b=>a.pure&&b.pure
 |_=>bp
def fm:ah->bm aZ->bv ah
 |τ,[]=>Y τ
 |.osl c,.idx _::b=>fm c b
 |.optr c,.deref::b=>fm c b
 |.mp c,.deref::b=>fm c b
 |.st c,.unst::b=>fm c b
 |.pr a _,.fst::b=>fm a b
 |.pr _ d,.snd::b=>fm d b
 |_,_=>bo
def fH:ah->X->bv (bm aZ×ah)
 |.pr a _,0=>Y ([.fst],a)
 |.pr _ c,d+1=>match fH c d with|some b=>Y (.snd::b.1,b.2)|none=>bo
 |_,_=>bo
def fA:ah->X->X
 |.pr _ _,0=>0
 |.pr a b,c+1=>a.size+fA b c
 |_,_=>0
def rh:(e:ah)->e.den->X->bv aF
 |.pr a _,b,0=>Y ⟨a,b.1⟩
 |.pr _ c,b,d+1=>rh c b.2 d
 |_,_,_=>bo
theorem HB {h:b0}:∀{τ:ah} {j:bm aio} {f:X} {g:ahS} {e:X} {s:bm aZ} {τf:ah},iD h τ j f g->fH τ e=Y (s,τf)->∃c,j[e]?=Y c/\c.offset=f+fA τ e/\fj h τf c.type
 |.pr a i,c::m,f,g,0,s,τf,d,b=>by simp only[fH,eR,ij] at b;obtain⟨rfl,rfl⟩:=b;exact⟨c,bn,by rw[d.1];rfl,d.2.1⟩
 |.pr a i,c::m,f,g,e+1,s,τf,d,b=>by
  simp only[fH] at b;split at b
  ·rename_i k l;simp only[eR,ij] at b;obtain⟨rfl,rfl⟩:=b;obtain⟨n,o,p,q⟩:=HB (τ:=i) d.2.2.2.2 (s:=k.1) (τf:=k.2) l;grind [fA]
  grind
 |.pr _ _,[],_,_,_,_,_,d,_=>d.elim
 |.int _,_,_,_,_,_,_,_,b=>by cases b
 |.bool,_,_,_,_,_,_,_,b=>by cases b
 |.str,_,_,_,_,_,_,_,b=>by cases b
 |.a2 _ _,_,_,_,_,_,_,_,b=>by cases b
 |.osl _,_,_,_,_,_,_,_,b=>by cases b
 |.ptr _ _,_,_,_,_,_,_,_,b=>by cases b
 |.optr _,_,_,_,_,_,_,_,b=>by cases b
 |.st _,_,_,_,_,_,_,_,b=>by cases b
 |.nil,_,_,_,_,_,_,_,b=>by cases b
 |.eL,_,_,_,_,_,_,_,b=>by cases b
theorem HE:∀{τ:ah} {e:τ.den} {d:X} {c:aF},rh τ e d=Y c->∃g,fH τ d=Y (g,c.1)
 |.pr a f,e,0,c,b=>by simp only[rh,eR] at b;subst b;exact⟨_,bn⟩
 |.pr a f,e,d+1,c,b=>by obtain⟨g,h⟩:=HE (τ:=f) b;grind [fH]
 |.int _,_,_,_,b=>by cases b
 |.bool,_,_,_,b=>by cases b
 |.str,_,_,_,b=>by cases b
 |.a2 _ _,_,_,_,b=>by cases b
 |.osl _,_,_,_,b=>by cases b
 |.ptr _ _,_,_,_,b=>by cases b
 |.optr _,_,_,_,b=>by cases b
 |.st _,_,_,_,b=>by cases b
 |.nil,_,_,_,b=>by cases b
 |.eL,_,_,_,b=>by cases b
theorem xd:∀{τ:ah} {c:X} {s:bm aZ} {tf:ah},fH τ c=Y (s,tf)->fA τ c+tf.size<=τ.size
 |.pr a d,0,s,tf,b=>by simp only[fH,eR,ij] at b;obtain⟨_,rfl⟩:=b;simp[fA,ah.size]
 |.pr a d,c+1,s,tf,b=>by
  simp only[fH] at b;split at b
  ·rename_i e f;simp only[eR,ij] at b;obtain⟨_,rfl⟩:=b;have:=xd (τ:=d) (s:=e.1) (tf:=e.2) f;grind [fA,ah.size]
  grind
 |.int _,_,_,_,b=>by cases b
 |.bool,_,_,_,b=>by cases b
 |.str,_,_,_,b=>by cases b
 |.a2 _ _,_,_,_,b=>by cases b
 |.osl _,_,_,_,b=>by cases b
 |.ptr _ _,_,_,_,b=>by cases b
 |.optr _,_,_,_,b=>by cases b
 |.st _,_,_,_,b=>by cases b
 |.nil,_,_,_,b=>by cases b
 |.eL,_,_,_,b=>by cases b
theorem HD {i:eC->X->Prop} {w:bD}:∀{τ:ah} {f:τ.den} {e:X} {c:aF} {d:ahS},aR i w τ d f []->rh τ f e=Y c->aR i w c.1 ((d.drop (fA τ e)).take c.1.size) c.2 []/\fA τ e+c.1.size<=τ.size
 |.pr a j,f,0,c,d,h,b=>by simp only[rh,eR] at b;subst b;obtain⟨g,f2,m,l,k⟩:=h;obtain⟨rfl,rfl⟩:g=[]/\f2=[]:=(by simp_all);grind [fA,ah.size]
 |.pr a j,f,e+1,c,d,h,b=>by obtain⟨g,f2,m,l,k⟩:=h;obtain⟨rfl,rfl⟩:g=[]/\f2=[]:=(by simp_all);obtain⟨n,o⟩:=HD (τ:=j) k b;grind [ajM,fA,ah.size]
 |.int _,_,_,_,_,_,b=>by cases b
 |.bool,_,_,_,_,_,b=>by cases b
 |.str,_,_,_,_,_,b=>by cases b
 |.a2 _ _,_,_,_,_,_,b=>by cases b
 |.osl _,_,_,_,_,_,b=>by cases b
 |.ptr _ _,_,_,_,_,_,b=>by cases b
 |.optr _,_,_,_,_,_,b=>by cases b
 |.st _,_,_,_,_,_,b=>by cases b
 |.nil,_,_,_,_,_,b=>by cases b
 |.eL,_,_,_,_,_,b=>by cases b
theorem aX.gw {w:bD} {a b:Loc}:aX w d a g [] r b y↔d=r/\a=b/\g=y:=by cases d<;>exact akl
theorem aX.append {w:bD}:∀{p c:bm aZ} {τ u v:ah} {n q r:Loc} {m k l:ahS},aX w τ n m p u q k->aX w u q k c v r l->aX w τ n m (p++c) v r l
 |[],c,τ,_,_,_,_,_,_,_,_,a,b=>by grind [aX.gw]
 |s::p,c,τ,_,_,_,_,_,_,_,_,a,b=>by
  cases τ<;>cases s<;>simp only[aX] at a
  case osl.idx t i=>
   obtain⟨d,o,z,x,e,f,g,h,j,y⟩:=a;exact⟨d,o,z,x,e,f,g,h,j,y.append b⟩
  case optr.deref t=>
   obtain⟨d,o,e,f,g,h,j⟩:=a;exact⟨d,o,e,f,g,h,j.append b⟩
  case st.unst t=>exact aX.append (p:=p) (τ:=t) a b
  case pr.fst t1 t2=>exact aX.append (p:=p) (τ:=t1) a b
  case pr.snd t1 t2=>exact aX.append (p:=p) (τ:=t2) a b
theorem aX.here {w:bD} {a:Loc}:aX w d a g [] d a g:=by cases d<;>exact⟨bn,bn,bn⟩
def aX.ty {w:bD}:∀{p:bm aZ} {τ c:ah} {m n:Loc} {e f:ahS},aX w τ m e p c n f->fm τ p=Y c
 |[],τ,_,_,_,_,_,a=>by obtain⟨rfl,_⟩:=aX.gw.1 a;cases τ<;>rfl
 |s::p,τ,_,_,_,_,_,a=>by
  cases τ<;>cases s<;>simp only[aX] at a
  case osl.idx t i=>obtain⟨d,o,r,q,g,h,j,k,b,l⟩:=a;exact l.ty
  case optr.deref t=>obtain⟨d,o,g,h,j,k,b⟩:=a;exact b.ty
  case st.unst t=>exact aX.ty (p:=p) (τ:=t) a
  case pr.fst t1 t2=>exact aX.ty (p:=p) (τ:=t1) a
  case pr.snd t1 t2=>exact aX.ty (p:=p) (τ:=t2) a
theorem aX.at {w:bD}:∀{q:bm aZ} {τ r:ah} {g p:Loc} {e h:ahS},aX w τ g e q r p h->e.length=τ.size->(∀b o,g=Y (b,o)->fr w b o e)->h.length=r.size/\∀b o,p=Y (b,o)->fr w b o h
 |[],τ,_,_,_,_,_,c,n,f=>by grind [aX.gw]
 |s::q,τ,_,g,_,e,_,c,n,f=>by
  cases τ<;>cases s<;>simp only[aX] at c
  case osl.idx t i=>
   obtain⟨b,o,A,z,u,v,k,l,m,x⟩:=c;exact x.at l (λj y d=>by grind)
  case optr.deref t=>
   obtain⟨b,o,u,v,k,l,m⟩:=c;exact m.at k (λj y d=>by grind)
  case st.unst t=>exact aX.at (τ:=t) c n f
  case pr.fst a b=>
   exact aX.at (τ:=a) c (by grind [ah.size]) (λb o d=>(f b o d).take)
  case pr.snd a b=>
   refine aX.at (τ:=b) c (by grind [ah.size]) (λj o d=>?_);cases g with
   |none=>grind
   |some B=>
    simp only[i9,eR,ij] at d;obtain⟨rfl,rfl⟩:=d;exact(f _ _ rfl).drop
theorem aX.uT {w:bD}:∀{τ:ah} {e:X} {s:bm aZ} {τf:ah} {l:Loc} {cs:ahS},fH τ e=Y (s,τf)->aX w τ l cs s τf (l.map λc=>(c.1,c.2+fA τ e)) ((cs.drop (fA τ e)).take τf.size)
 |.pr a f,0,s,τf,l,cs,d=>by simp only[fH,eR,ij] at d;obtain⟨rfl,rfl⟩:=d;simp_all [lV,aX,fA]
 |.pr a f,e+1,s,τf,l,cs,d=>by
  simp only[fH] at d;split at d
  ·rename_i c g;simp only[eR,ij] at d;obtain⟨rfl,rfl⟩:=d;have:=aX.uT (w:=w) (τ:=f) (s:=c.1) (τf:=c.2) (l:=l.map λc=>(c.1,c.2+a.size)) (cs:=cs.drop a.size) g;simp only[aX,fA];rw[qt] at this;cases l with
   |none=>grind
   |some h=>grind
  grind
 |.int _,_,_,_,_,_,b=>by cases b
 |.bool,_,_,_,_,_,b=>by cases b
 |.str,_,_,_,_,_,b=>by cases b
 |.a2 _ _,_,_,_,_,_,b=>by cases b
 |.osl _,_,_,_,_,_,b=>by cases b
 |.ptr _ _,_,_,_,_,_,b=>by cases b
 |.optr _,_,_,_,_,_,b=>by cases b
 |.st _,_,_,_,_,_,b=>by cases b
 |.nil,_,_,_,_,_,b=>by cases b
 |.eL,_,_,_,_,_,b=>by cases b
theorem eN.uniq:∀{p:bm aZ} {τ:ah} {e:τ.den} {c:ah} {f g:c.den},eN τ e p c f->eN τ e p c g->f=g
 |[],τ,_,_,_,_,a,b=>by grind [eN.gw]
 |s::p,τ,_,_,_,_,a,b=>by
  cases τ<;>cases s<;>simp only[eN] at a b
  case osl.idx=>
   obtain⟨i,h,a⟩:=a;obtain⟨j,d,b⟩:=b;rw[h] at d;obtain rfl:=gC d;exact a.uniq b
  case optr.deref=>exact eN.uniq (p:=p) a b
  case st.unst=>exact eN.uniq (p:=p) a b
  case pr.fst=>exact eN.uniq (p:=p) a b
  case pr.snd=>exact eN.uniq (p:=p) a b
def Yields (E:fB) (C:eX) (st:aO) (a:Act) (w:bD) (I:X->Prop) (rt:X->ahS) (fp:X->ahY) (o:bR) (Q:ak->bm (X×aF)->Prop):Prop:=
 ∃j d e i g f c,(bL a.eval o).run E.P w=.ok (.value j) d/\hj w d/\(∀b,I b->e b)/\(∀b,e b->I b\/(w.heap.size<=b/\b<d.heap.size))/\v7 C st w d e c i g/\cN (bb e C.B) d (c++st.h) (fi c i rt) (fi c g fp) f j/\Q f c
section
variable {E:fB} {C:eX} {st:aO} {a:Act} {w:bD} {I:X->Prop} {rt:X->ahS} {fp:X->ahY} {o:bR} {Q:ak->bm (X×aF)->Prop}
def Yields.pure {v:Value} (d:(bL a.eval o).run E.P w=.ok (.value v) w) (e:cN (bb I C.B) w st.h rt fp V v) (c:Q V []):Yields E C st a w I rt fp o Q:=
 ⟨v,w,I,rt,fp,V,[],d,.refl w,λ_ b=>b,λ_ b=>.inl b,.nil,e,c⟩
def Yields.wp (t:cM C st a.tmps w I rt fp) (k:Yields E C st a w I rt fp o Q) {next:Act->bD->Prop} {j:b5->Act->bD->Prop} {f:X} (u:o.dst=Y f) (v:C.ok f) (x:∀b c e d,Q b c->e.defers=a.defers->gJ C ⟨(f,b)::st.g,c++st.h⟩ e.tmps d->next e d):o.wp E.P a w next j:=by
 obtain⟨y,d,i,A,z,b,c,l,m,n,p,q,r,s⟩:=k;unfold aic;rw[l];show next (a.put o.dst y) d
 rw[u];exact x b c _ _ s bn ⟨i,_,_,(t.ext m n p q).put v r⟩
def l1 (h:BinOp) (a:cu) (d:Z) (g:cu) (b:Z):h6:=
 let c (i:Prop) (f:Z):h6:=if a=g then .part Z (λc=>i/\f=c) (λc=>(.val (.int a) c,[])) else .bad
 let e (f:bA):h6:=if a=g then .e4 (.val .bool f) [] else .bad
 match h with
 |.add=>c True (a.wrap (d+b))
 |.sub=>c True (a.wrap (d-b))
 |.mul=>c True (a.wrap (d*b))
 |.quo=>c (b≠0) (a.wrap (d.tdiv b))
 |.rem=>c (b≠0) (d.tmod b)
 |.and=>c True (a.wrap (cg a.bits d&&&cg a.bits b).toNat)
 |.or=>c True (a.wrap (cg a.bits d|||cg a.bits b).toNat)
 |.xor=>c True (a.wrap (cg a.bits d^^^cg a.bits b).toNat)
 |.andNot=>c True (a.wrap (cg a.bits d&&&~~~cg a.bits b).toNat)
 |.shl=>.part Z (λc=>0<=b/\a.wrap (d*2^min b.toNat a.bits)=c) (λc=>(.val (.int a) c,[]))
 |.shr=>.part Z (λc=>0<=b/\d.fdiv (2^min b.toNat a.bits)=c) (λc=>(.val (.int a) c,[]))
 |.eql=>e (d==b)
 |.neq=>e (d !=b)
 |.lss=>e (br (d<b))
 |.leq=>e (br (d<=b))
 |.gtr=>e (br (d>b))
 |.geq=>e (br (d>=b))
def Gm (c:BinOp) (a b:ak):h6:=
 match a,b with
 |.val (.int d) a,.val (.int e) b=>l1 c d a e b
 |.val .bool a,.val .bool b=>match c with
  |.eql=>.e4 (.val .bool (a==b)) []
  |.neq=>.e4 (.val .bool (!(a==b))) []
  |_=>.bad
 |_,_=>.bad
theorem S4 {e:BinOp} {d g:cu} {n f:Z} (k:o.op=.binOp e x c h T) (l:a.eval c=.int d n) (m:a.eval h=.int g f) (b:(l1 e d n g f).K Q):Yields E C st a w I rt fp o Q:=by
 have j:∀w,(aiV e x c h (.int d n) (.int g f)).run E.P w=.ok () w:=λw=>(by simp_all [aiV]);have r:e=.shl->Yields E C st a w I rt fp o Q:=(by rintro rfl;simp only[l1] at b;obtain⟨i,⟨p,rfl⟩,b⟩:=b;exact .pure (v:=.int d _) (by simp[bL,k,l,m,j,aid,Op.shift,(aa:¬f<0)]) (.int d _) b);have s:e=.shr->Yields E C st a w I rt fp o Q:=(by rintro rfl;simp only[l1] at b;obtain⟨i,⟨p,rfl⟩,b⟩:=b;exact .pure (v:=.int d _) (by simp[bL,k,l,m,j,aid,Op.shift,(aa:¬f<0)]) (.int d _) b);by_cases q:d=g
 case neg=>
  cases e<;>simp only[l1,q,if_false] at b
  case shl=>grind
  case shr=>grind
  all_goals exact b.elim
 subst q;cases e<;>simp only[l1,cf] at b
 case shl=>grind
 case shr=>grind
 case quo|rem=>
  obtain⟨i,⟨p,rfl⟩,b⟩:=b;exact .pure (v:=.int d _) (by simp_all [bL,aid,Op.intDiv]) (.int d _) b
 case add|sub|mul=>
  obtain⟨i,⟨_,rfl⟩,b⟩:=b;exact .pure (v:=.int d _) (by simp_all [bL,aid,Op.intArith]) (.int d _) b
 case and|or|xor|andNot=>
  obtain⟨i,⟨_,rfl⟩,b⟩:=b;exact .pure (v:=.int d _) (by simp_all [bY,bL,aid,Op.intBits]) (.int d _) b
 all_goals exact .pure (v:=.bool _) (by simp[bL,k,l,m,j,aid,Op.intCmp]) (.bool _) b
def run_equalIn_bool {a:b0} (w:bD) (d:X) (b c:bA) (e:a.underlying x=Y .bool):(ai6 (d+1) x (.bool b) (.bool c)).run a w=.ok (b==c) w:=by simp[ai6,b8 e]
theorem run_eql_bool {a:b0} (w:bD) (b c:bA) (d:a.underlying x=Y .bool):(aid .eql x (.bool b) (.bool c)).run a w=.ok (.bool (b==c)) w:=by simp_all [run_equalIn_bool,ajN,ajO,aid]
theorem run_neq_bool {a:b0} (w:bD) (b c:bA) (d:a.underlying x=Y .bool):(aid .neq x (.bool b) (.bool c)).run a w=.ok (.bool (!(b==c))) w:=by simp_all [run_equalIn_bool,ajN,ajO,aid]
theorem Lo (s:cM C st a.tmps w I rt fp) {m:BinOp} (z:o.op=.binOp m x c h T) (y:∀i j:bA,(m=.eql\/m=.neq)->(aT st.g c=.val .bool i/\aT st.g h=.val .bool j)->E.P.underlying x=Y .bool) (d:(Gm m (aT st.g c) (aT st.g h)).K Q):Yields E C st a w I rt fp o Q:=by
 have e:=s.aT c;have f:=s.aT h;unfold Gm at d;split at d
 ·rename_i G J H L n p;rw[n] at e;rw[p] at f;obtain⟨b,l⟩:∃b,b=a.eval c:=⟨_,bn⟩;obtain⟨A,k⟩:∃b,b=a.eval h:=⟨_,bn⟩;rw[<-l] at e;rw[<-k] at f;cases e with|val q=>cases f with|val r=>
  obtain⟨_,rfl⟩:=q;obtain⟨_,rfl⟩:=r;exact S4 z l.symm k.symm d
 ·rename_i i j n p;have k:=y i j;have u:aT st.g c=.val .bool i/\aT st.g h=.val .bool j:=⟨n,p⟩;rw[n] at e;rw[p] at f;obtain⟨b,l⟩:∃b,b=a.eval c:=⟨_,bn⟩;obtain⟨A,t⟩:∃b,b=a.eval h:=⟨_,bn⟩;rw[<-l] at e;rw[<-t] at f;cases e with|val q=>cases f with|val r=>
  obtain⟨_,rfl⟩:=q;obtain⟨_,rfl⟩:=r;have F:a.eval c=.bool i:=l.symm;have D:a.eval h=.bool j:=t.symm;have B:∀w,(aiV m x c h (.bool i) (.bool j)).run E.P w=.ok () w:=λw=>(by simp_all [aiV]);split at d
  ·have:=k (.inl bn) u;exact .pure (v:=.bool _) (by simp_all [bY,b1,run_eql_bool,bL]) (.bool _) d
  ·have:=k (.inr bn) u;exact .pure (v:=.bool _) (by simp_all [bY,b1,run_neq_bool,bL]) (.bool _) d
  exact d.elim
 exact d.elim
end
end
section
section
variable {E:fB} {C:eX} {st:aO} {a:Act} {w:bD} {I:X->Prop} {rt:X->ahS} {fp:X->ahY} {o:bR} {Q:ak->bm (X×aF)->Prop}
theorem cM.notM (c:cM C st z w I rt fp) {id:X} (e:ar st.h id=Y P):∀a∈fp id,∀b,¬bb I C.B b a:=λa d b f=>by have:=(c.tree id P e).2.2 a d;grind [mX]
theorem cM.k0 (e:cM C st z w I rt fp) {id:X} (f:ar st.h id=Y P) {p:bm aZ} {τ:ah} {i:τ.den} (l:eN P.1 P.2 p τ i) {c:Loc} (m:aX w P.1 bo (rt id) p d c g):∃_e:d=τ,∃a,aR (bb I C.B) w τ g i a/\pC w c g τ.size/\∀j∈a,j∈fp id:=by obtain⟨o,n,_⟩:=e.tree id P f;obtain⟨u,q,a,v,k,r,s,t,_⟩:=DQ p (loc:=bo) o (λ_ _ b=>by cases b) n (λ_ _ b=>by cases b) (e.notM f) l;obtain⟨rfl,rfl,rfl⟩:=m.lB k;grind
def cM.Qe (e:cM C st z w I rt fp) {id:X} (i:ar st.h id=Y P) {b:Loc} (f:aX w P.1 bo (rt id) n d b g):g.length=d.size/\∀a o,b=Y (a,o)->fr w a o g:=f.at (e.tree id P i).1.len (λ_ _ c=>by cases c)
theorem pa {u:eC->X->Prop}:∀{p:bm aZ} {τ:ah} {E:Loc} {j:ahS} {m:τ.den} {g:ahY} {c:ah} {F:Loc} {n:ahS},aR u w τ j m g->aX w τ E j p (.optr c) F n->∃d o e,n=[.pointer (Y ⟨d,o,bo⟩)]/\e.length=c.size/\fr w d o e
 |[],τ,_,_,_,_,_,_,_,a,b=>by obtain⟨rfl,rfl,rfl⟩:=aX.gw.1 b;obtain⟨d,o,g,e,q,_,t,h,_⟩:=a;grind
 |s::p,τ,_,j,m,g,_,_,_,a,b=>by
  cases τ<;>cases s<;>simp only[aX] at b
  case osl.idx c i=>
   obtain⟨d,o,N,J,e,rfl,r,t,h,l⟩:=b;obtain⟨I,K,f,a⟩:=a;simp only[hL,ah7,b9] at f;obtain⟨rfl,rfl,rfl⟩:=f;rcases a with⟨k,_⟩|⟨v,G,B,k,_,aw,O,P,H⟩
   ·cases k
   cases k;obtain⟨z,L,x,y⟩:=H i m[i] (B[i]'(by omega)) ac ac
   obtain rfl:=h.eq x aa;exact pa (p:=p) y l
  case optr.deref c=>
   obtain⟨d,o,e,rfl,t,h,l⟩:=b;obtain⟨v,G,g,z,f,_,M,C,_,D⟩:=a;simp only[hL,ai4,eR,ain,b9] at f;obtain⟨rfl,rfl⟩:=f;obtain rfl:=h.eq C aa;exact pa (p:=p) D l
  case st.unst c=>exact pa (p:=p) (τ:=c) a b
  case pr.fst t1 t2=>obtain⟨A,f2,_,q,_⟩:=a;exact pa (p:=p) (τ:=t1) q b
  case pr.snd t1 t2=>obtain⟨A,f2,_,_,r⟩:=a;exact pa (p:=p) (τ:=t2) r b
def gX (tt:bm (bF×ah)) (a:bF):bv ah:=match ar tt a with|some (.a2 _ b)=>Y b|_=>bo
def lF (tt:bm (bF×ah)) (a:bF):bv ah:=match ar tt a with|some (.st b)=>Y b|_=>bo
theorem gX.ok {a:bF} {e:ah} (c:gX E.tt a=Y e):∃d b,E.P.info? a=Y d/\E.P.underlying a=Y (.slice b)/\fj E.P e b:=by
 unfold gX at c;split at c
 ·rename_i j k f;cases c;obtain⟨d,b,g,_,_,_,h,i⟩:=E.ok a _ f;grind
 grind
theorem lF.ok {a:bF} {d:ah} (c:lF E.tt a=Y d):∃b e,E.P.underlying a=Y (.struct b)/\iD E.P d b.toList 0 e:=by
 unfold lF at c;split at c
 ·rename_i k f;cases c;obtain⟨_,j,b,e,g,_,_,_,h,i,_⟩:=E.ok a _ f;grind
 grind
def u3 (tt:bm (bF×ah)) (e:bm (X×aF)) (g:bF) (b:ak):h6:=
 match gX tt g with
 |none=>.bad
 |some _=>match b with
  |.val (.a2 _ _) a=>.e4 (.val (.int .i64) (a.length:Z)) []
  |.dg (.slice bo 0 0)=>.e4 (.val (.int .i64) (0:Z)) []
  |.ref id d=>match ar e id with
   |some ⟨c,b⟩=>match fm c d with
    |some (.osl f)=>.part (bm f.den) (λa=>eN c b d (.osl f) a) (λa=>(.val (.int .i64) (a.length:Z),[]))
    |_=>.bad
   |none=>.bad
  |.view _ _ i h=>.e4 (.val (.int .i64) ((h-i:X):Z)) []
  |.app id d c j _=>match ar e id with
   |some ⟨k,b⟩=>.part (bm c.den) (λa=>eN k b d (.osl c) a) (λa=>(.val (.int .i64) ((a.length+j.length:X):Z),[]))
   |none=>.bad
  |_=>.bad
def xp (f:gX E.tt x=Y d) (g:o.op=.call {callee:=.builtin .len,args:=#[c],argTypes:=#[x]}) (h:a.eval c=.slice s b i):(bL a.eval o).run E.P w=.ok (.value (.int .i64 b)) w:=by obtain⟨k,j,_,e,_⟩:=gX.ok f;simp[bL,g,aiG,invoke,aiW,h,ak6,b8 e,goInt]
theorem WC (s:cM C st a.tmps w I rt fp) (j:o.op=.call {callee:=.builtin .len,args:=#[c],argTypes:=#[x]}) (b:(u3 E.tt st.h x (aT st.g c)).K Q):Yields E C st a w I rt fp o Q:=by
 have d:=s.aT c;unfold u3 at b;split at b
 ·exact b.elim
 rename_i T i;generalize f:a.eval c=U at d;split at b
 ·rename_i R D u e;rw[e] at d;cases d with|val B=>
  obtain⟨_,p,q,rfl,_⟩:=B;exact .pure (xp i j f) (.int _ _) b
 ·rename_i e;rw[e] at d;cases d;exact .pure (xp i j f) (.int _ _) b
 ·rename_i id t e;rw[e] at d;split at b
  ·rename_i G F l;split at b
   ·rename_i D O;obtain⟨u,m,b⟩:=b;cases d with|ref k n=>
    rw[l] at k;cases k;obtain⟨rfl,H,A,_⟩:=s.k0 l m n;obtain⟨p,q,rfl,_⟩:=A;exact .pure (xp i j f) (.int _ _) b
   exact b.elim
  exact b.elim
 ·rename_i id t P M e;rw[e] at d;cases d with
  |me=>exact .pure (xp i j f) (.int _ _) b
  |view k n=>exact .pure (xp i j f) (.int _ _) b
 ·rename_i id t G V S e;rw[e] at d;split at b
  ·rename_i ad F l;obtain⟨u,m,b⟩:=b;cases d with|app k N n y J L v=>
   rw[l] at k;cases k;obtain⟨p,q,r,_⟩:=v;simp only[hL,b9] at r;have z:=eN.uniq m y;subst z;rw[r] at f;have:=xp (w:=w) i j f;rw[jQ] at this;exact .pure this (.int _ _) b
  exact b.elim
 exact b.elim
def aX.Nd {j:Loc} {o a c:X} (e:i<a) (f:g.length=d.size) (h:fr w b (o+i*d.size) g):aX w (.osl d) j [.slice (Y ⟨b,o,bo⟩) a c] [.idx i] d (Y (b,o+i*d.size)) g:=⟨b,o,a,c,g,bn,e,f,h,aX.here⟩
def aX.Hb {e:Loc} {o:X} (a:g.length=d.size) (c:fr w b o g):aX w (.optr d) e [.pointer (Y ⟨b,o,bo⟩)] [.deref] d (Y (b,o)) g:=⟨b,o,g,bn,a,c,aX.here⟩
def u0 (
 tt:bm (bF×ah)) (i:bm (X×aF)) (k:bF) (e d:ak):h6:=
 match gX tt k with
 |none=>.bad
 |some g=>match d with
  |.val (.int _) d=>match e with
   |.val (.a2 m b) n=>bif a7 g b then .part b.den (λh=>ao n d=Y h) (λh=>(.val (.ptr m b) (Y h),[])) else .bad
   |.ref id c=>match ar i id with
    |some ⟨f,e⟩=>match fm f c with
     |some (.osl b)=>bif a7 g b then .part (bm b.den×X) (λa=>eN f e c (.osl b) a.1/\d=(a.2:Z)/\a.2<a.1.length) (λa=>(.addr id (c++[.idx a.2]),[])) else .bad
     |_=>.bad
    |none=>.bad
   |.view id c j l=>match ar i id with
    |some ⟨f,e⟩=>match fm f c with
     |some (.osl b)=>bif a7 g b then .part (bm b.den×X) (λa=>eN f e c (.osl b) a.1/\d=(a.2:Z)/\a.2<l-j) (λa=>(.addr id (c++[.idx (j+a.2)]),[])) else .bad
     |_=>.bad
    |none=>.bad
   |_=>.bad
  |_=>.bad
def HW (l:gX E.tt x=Y r) (n:a7 r d=bp) (p:o.op=.indexAddr x h c) {e f g:X} (s:a.eval h=.slice (Y ⟨e,f,bo⟩) i g) (m:a.eval c=.int v b) (u:b<i):(bL a.eval o).run E.P w=.ok (.value (.pointer (Y ⟨e,f+b*d.size,bo⟩))) w:=by obtain⟨y,t,_,j,k⟩:=gX.ok l;have q:=(k.lay n).sizeOf w;have:(0:Z)<=(b:Z)/\(b:Z)<(i:Z):=⟨aa,aa⟩;simp[bL,p,s,m,Instr.indexAt,ai7,b8 j,this,q,aiU];omega
theorem VS (B:cM C st a.tmps w I rt fp) {z:bM} (M:o.op=.indexAddr T z c) (b:(u0 E.tt st.h T (aT st.g z) (aT st.g c)).K Q):Yields E C st a w I rt fp o Q:=by
 have k:=B.aT z;have L:=B.aT c;unfold u0 at b;split at b
 ·exact b.elim
 rename_i U J;generalize N:a.eval z=d7 at k;generalize O:a.eval c=d8 at L;split at b
 case h_2=>exact b.elim
 rename_i ap P bs;rw[bs] at L;cases L with|val S=>
 obtain⟨_,rfl⟩:=S;split at b
 ·rename_i c2 f y q;cases d:a7 U f with
  |false=>rw[d] at b;exact b.elim
  |true=>
   rw[d] at b;obtain⟨V,c1,b⟩:=b;rw[q] at k;cases k with|val S=>
   obtain⟨_,ad,am,rfl,aw,av,R⟩:=S;obtain⟨aq,a4,bl⟩:=MY c1;rcases R with rfl|⟨A,u,rfl,ce,v⟩
   ·grind
   obtain⟨F,n,p,D⟩:=v _ _ bl;have cv:a.eval c=.int ap (P.toNat:X):=(by rw[O];show aie ap P=_;grind);exact .pure (HW J d M N cv a4) (.val (τ:=.ptr c2 f) (x:=Y V) (cs:=[.pointer (Y ⟨A,u+P.toNat*f.size,bo⟩)]) ⟨bn,A,_,F,bn,ce,n,p,D⟩) b
 ·rename_i id dl q;split at b
  case h_2=>exact b.elim
  rename_i a0 V j;split at b
  case h_2=>exact b.elim
  rename_i f co;cases d:a7 U f with
  |false=>rw[d] at b;exact b.elim
  |true=>
   rw[d] at b;obtain⟨⟨y,e⟩,⟨r,rfl,l⟩,b⟩:=b;simp only at r l b;rw[q] at k;cases k with|ref t s=>
   rw[j] at t;cases t;obtain⟨rfl,bx,i,_⟩:=B.k0 j r s;obtain⟨ad,am,rfl,i⟩:=i;rcases i with⟨_,rfl,_⟩|⟨A,u,G,rfl,_,aw,av,R,v⟩
   ·grind
   obtain⟨F,n,p,D⟩:=v e y[e] (G[e]'(by omega)) ac ac
   exact .pure (HW J d M N O l) (.addr j (s.append (aX.Nd l n p))) b
 ·rename_i id dl m d1 q;split at b
  case h_2=>exact b.elim
  rename_i a0 V j;split at b
  case h_2=>exact b.elim
  rename_i f co;cases d:a7 U f with
  |false=>rw[d] at b;exact b.elim
  |true=>
   rw[d] at b;obtain⟨⟨y,e⟩,⟨r,rfl,l⟩,b⟩:=b;simp only at r l b;rw[q] at k;cases k with|me=>omega|view t s d2 d3 d4=>
   rename_i A u d5 am;rw[j] at t;cases t;obtain⟨a3,bx,i,_⟩:=B.k0 j r s;cases a3;obtain⟨ad,d0,an,i⟩:=i;simp only[hL,ah7,b9] at an;obtain⟨rfl,rfl,rfl⟩:=an;rcases i with⟨H,_⟩|⟨ds,d6,G,H,_,aw,av,R,v⟩
   ·cases H
   cases H;have ci:m+e<y.length:=aa;obtain⟨F,n,p,D⟩:=v (m+e) y[m+e] (G[m+e]'(by omega)) ac ac
   have:=HW (w:=w) J d M N O l;rw[ax aa,show u+m*f.size+e*f.size=u+(m+e)*f.size by grind] at this;exact .pure this (.addr j (s.append (aX.Nd ci n p))) b
 exact b.elim
def aR.pure {h:eC->X->Prop} {w:bD}:∀{τ:ah} {i:ahS} {e:τ.den} {g:ahY},τ.pure=bp->aR h w τ i e g->g=[]
 |.int _,_,_,_,_,b=>b.1
 |.bool,_,_,_,_,b=>b.1
 |.str,_,_,_,_,b=>b.1
 |.a2 _ _,_,_,_,_,b=>b.1
 |.ptr _ _,_,_,_,_,b=>b.1
 |.nil,_,_,_,_,b=>b.1
 |.st k,_,_,_,c,b=>aR.pure (τ:=k) c b
 |.pr a f,_,_,_,c,b=>by simp only[ah.pure,cC] at c;obtain⟨n,f2,rfl,j,d⟩:=b;rw[aR.pure (τ:=a) c.1 j,aR.pure (τ:=f) c.2 d];rfl
 |.osl _,_,_,_,c,_=>by cases c
 |.optr _,_,_,_,c,_=>by cases c
 |.fx _ _,_,e,_,_,b=>by
  cases e with
  |none=>exact b.1
  |some o=>obtain⟨f,m,l,_,d,_⟩:=b;exact d
 |.fn _ _,_,_,_,_,b=>b.1
 |.eL,_,_,_,c,_=>by cases c
def vp (d:ah) (e:d.den) (id:X) (c:bm aZ) (a:ah):h6:=
 bif a.pure then .part a.den (λb=>eN d e c a b) (λb=>(.val a b,[])) else .e4 (.ref id c) []
def oE:ah->bA
 |.st _|.pr _ _|.nil|.eL=>bq
 |_=>bp
def o3:ah->bA
 |.nil=>bp
 |.pr a b=>oE a&&o3 b
 |_=>bq
def zT:(d:ah)->d.den->bm ak
 |.pr a c,b=>.val a b.1::zT c b.2
 |_,_=>[]
def o3.one {τ:ah} (a:oE τ=bp):τ.size=1/\∀cs,cX τ cs=cs.headD undef:=by cases τ<;>first|(cases a;done)|exact⟨bn,λ_=>rfl⟩
def MO {g:eC->X->Prop} {w:bD} {h:bm (X×aF)} {rt:X->ahS} {fp:X->ahY}:∀{t:ah} {c:ahS} {e:t.den},o3 t=bp->aR g w t c e []->(zT t e).length=c.length/\∀(b:X) (a:ak) (f:Value),(zT t e)[b]?=Y a->c[b]?=Y f->cN g w h rt fp a f
 |.nil,c,e,_,j=>by obtain rfl:=j.2;exact⟨bn,λb a f d _=>by cases d⟩
 |.pr a o,c,e,i,j=>by
  simp only[o3,cC] at i;obtain⟨v,f2,r,d,k⟩:=j;obtain⟨rfl,rfl⟩:=ak7.1 r.symm;obtain⟨aq,q⟩:=o3.one i.1;have m:=d.len;rw[aq] at d k m;cases c with
  |nil=>cases m
  |cons f c=>
   obtain⟨aw,s⟩:=MO (t:=o) i.2 k;refine⟨b3 (· +1) aw,λb p u l n=>?_⟩;cases b with
   |zero=>
    cases l;cases n;have:=cN.val (M:=g) (w:=w) (h:=h) (rt:=rt) (fp:=fp) d;rw[q] at this;exact this
   |succ b=>exact s b p u l n
def vi:(t:ah)->t.den->ak
 |.fn b t,a=>bif o3 t then .eA b (zT t a) else .val (.fn b t) a
 |t,a=>.val t a
def aaQ {w:bD} {rt:X->ahS} {fp:X->ahY} {b:d.den} (j:aR e w d g b []):cN e w u rt fp (vi d b) (cX d g):=by
 cases d<;>first|exact .val j|skip
 rename_i c d;cases i:o3 d with
 |false=>
  have:vi (.fn c d) b=.val (.fn c d) b:=(by simp only[vi,i,bP]);rw[this];exact .val j
 |true=>
  have:vi (.fn c d) b=.eA c (zT d b):=(by simp only[vi,i,bG]);rw[this];obtain⟨_,o,rfl,f⟩:=j;obtain⟨aw,m⟩:=MO (h:=u) (rt:=rt) (fp:=fp) i f;exact .eA (by simpa using aw) (λl a n k f=>m l a n k (by simpa using f))
def u4 (tt:bm (bF×ah)) (f:bm (X×aF)) (g:bF) (c:ak):h6:=
 match ar tt g with
 |none=>.bad
 |some e=>match c with
  |.val (.ptr _ a) (Y i)=>bif a7 e a then .e4 (vi a i) [] else .bad
  |.hy h=>bif oE e then .e4 h [] else .bad
  |.addr id b=>match ar f id with
   |some ⟨d,c⟩=>match fm d b with
    |some a=>bif a7 e a then vp d c id b a else .bad
    |none=>.bad
   |none=>.bad
  |.ref id b=>match ar f id with
   |some ⟨d,c⟩=>match fm d b with
    |some (.optr a)=>bif a7 e a then vp d c id (b++[.deref]) a else .bad
    |_=>.bad
   |none=>.bad
  |_=>.bad
theorem Im (e:ar E.tt x=Y r) (j:a7 r d=bp) (k:o.op=.load x c) (l:a.eval c=.pointer (Y ⟨b,i,bo⟩)) (f:fr w b i g) (h:g.length=d.size):(bL a.eval o).run E.P w=.ok (.value (cX d g)) w:=by have:=JG ((E.ok x r e).lay j) f h;simp_all [bL,amd,ajp]
theorem Jv (l:cM C st a.tmps w I rt fp) {id:X} {k:r.den} (j:ar st.h id=Y ⟨r,k⟩) {p:Loc} (e:aX w r bo (rt id) n d p g) (f:(bL a.eval o).run E.P w=.ok (.value (cX d g)) w) (b:(vp r k id n d).K Q):Yields E C st a w I rt fp o Q:=by
 unfold vp at b;cases c:d.pure with
 |true=>
  rw[c] at b;obtain⟨s,m,b⟩:=b;obtain⟨_,q,i,_⟩:=l.k0 j m e;have:=i.pure c;subst this;exact .pure f (.val i) b
 |false=>
  rw[c] at b;exact .pure f (.ref j e) b
theorem WJ (p:cM C st a.tmps w I rt fp) (z:o.op=.load x c) (d:(u4 E.tt st.h x (aT st.g c)).K Q):Yields E C st a w I rt fp o Q:=by
 have f:=p.aT c;unfold u4 at d;split at d
 ·exact d.elim
 rename_i n r;generalize A:a.eval c=u at f;split at d
 ·rename_i a0 m G i;cases e:a7 n m with
  |false=>rw[e] at d;exact d.elim
  |true=>
   rw[e] at d;rw[i] at f;cases f with|val U=>
   obtain⟨_,q,O,H,rfl,aw,F,S,T⟩:=U;exact .pure (Im r e z A S F) (aaQ T) d
 ·rename_i am i;cases s:oE n with
  |false=>rw[s] at d;exact d.elim
  |true=>
   rw[s] at d;rw[i] at f;cases f with|hy ap L an M=>
   obtain⟨aq,J⟩:=o3.one s;rename_i u q;have:=JG (E.ok x n r) (cs:=[u]) (w:=w) (b:=q) (o:=0) (λD a3 B=>by
    cases D with
    |zero=>cases B;exact L
    |succ D=>cases B) (by rw[aq];rfl)
   have N:(bL a.eval o).run E.P w=.ok (.value u) w:=(by rw[J] at this;simp_all [bL,amd,ajp]);exact .pure N M d
 ·rename_i id R i;split at d
  case h_2=>exact d.elim
  rename_i V G k;split at d
  case h_2=>exact d.elim
  rename_i m t;cases e:a7 n m with
  |false=>rw[e] at d;exact d.elim
  |true=>
   rw[e] at d;rw[i] at f;cases f with|addr l j=>
   rw[k] at l;cases l;have:=j.ty;rw[t] at this;cases this;obtain⟨aw,F⟩:=p.Qe k j;grind [Jv,Im]
 ·rename_i id R i;split at d
  case h_2=>exact d.elim
  rename_i V G k;split at d
  case h_2=>exact d.elim
  rename_i m t;cases e:a7 n m with
  |false=>rw[e] at d;exact d.elim
  |true=>
   rw[e] at d;rw[i] at f;cases f with|ref l j=>
   rename_i a4 av ad;rw[k] at l;cases l;have:=j.ty;rw[t] at this;cases this;obtain⟨q,O,H,rfl,v,y⟩:=pa (p.tree id _ k).1 j;exact Jv p k (j.append (aX.Hb v y)) (Im r e z A y v) d
 exact d.elim
def uU (tt:bm (bF×ah)) (g:bm (X×aF)) (h:bF) (k:ak) (c:X):h6:=
 match lF tt h with
 |none=>.bad
 |some e=>match k with
  |.val (.ptr i (.st a)) (Y l)=>bif a7 e a then match rh a l c with
   |some ⟨j,m⟩=>.e4 (.val (.ptr i j) (Y m)) []
   |none=>.bad
   else .bad
  |.ref id b=>match ar g id with
   |some ⟨f,_⟩=>match fm f b with
    |some (.optr (.st a))=>bif a7 e a then match fH a c with
     |some (d,_)=>.e4 (.addr id (b++(.deref::.unst::d))) []
     |none=>.bad
     else .bad
    |_=>.bad
   |none=>.bad
  |.addr id b=>match ar g id with
   |some ⟨f,_⟩=>match fm f b with
    |some (.st a)=>bif a7 e a then match fH a c with
     |some (d,_)=>.e4 (.addr id (b++(.unst::d))) []
     |none=>.bad
     else .bad
    |_=>.bad
   |none=>.bad
  |_=>.bad
theorem HA {g:ah} (m:lF E.tt x=Y g) (q:a7 g d=bp) (u:fH d b=Y (n,r)) (s:o.op=.fieldAddr x c b) {f:X} (v:a.eval c=.pointer (Y ⟨i,f,bo⟩)):(bL a.eval o).run E.P w=.ok (.value (.pointer (Y ⟨i,f+fA d b,bo⟩))) w:=by obtain⟨j,A,k,l⟩:=lF.ok m;obtain⟨h,z,t,e⟩:=HB (iD.lay q l) u;have y:r.size≠0:=(by have:=e.pos;omega);have p:j[b]?=Y h:=(by grind);simp[bL,s,v,Instr.fieldAt,b8 k,p,ajp,fieldPlace,e.sizeOf,y,aiU,t]
theorem U7 (G:cM C st a.tmps w I rt fp) (y:o.op=.fieldAddr T c b) (d:(uU E.tt st.h T (aT st.g c) b).K Q):Yields E C st a w I rt fp o Q:=by
 have m:=G.aT c;unfold uU at d;split at d
 ·exact d.elim
 rename_i D v;generalize A:a.eval c=a0 at m;split at d
 ·rename_i U e M r;cases i:a7 D e with
  |false=>rw[i] at d;exact d.elim
  |true=>
   rw[i] at d;simp only[bG] at d;split at d
   case h_2=>exact d.elim
   rename_i n ap H;rw[r] at m;cases m with|val am=>
   obtain⟨_,f,j,u,rfl,aw,av,ad,J⟩:=am;obtain⟨t,k⟩:=HE H;obtain⟨L,an⟩:=HD (τ:=e) J H;have R:=J.len;simp only[ah.size] at R L an;exact .pure (HA v i k y A) (.val (τ:=.ptr U n) (x:=Y ap) (cs:=[.pointer (Y ⟨f,j+fA e b,bo⟩)]) ⟨bn,f,_,_,bn,aw,by grind,ad.drop.take,L⟩) d
 ·rename_i id V r;split at d
  case h_2=>exact d.elim
  rename_i N M q;split at d
  case h_2=>exact d.elim
  rename_i e z;cases i:a7 D e with
  |false=>rw[i] at d;exact d.elim
  |true=>
   rw[i] at d;simp only[bG] at d;split at d
   case h_2=>exact d.elim
   rename_i t n k;rw[r] at m;cases m with|ref s p=>
   rw[q] at s;cases s;have:=p.ty;rw[z] at this;cases this;obtain⟨f,j,u,rfl,O,P⟩:=pa (G.tree id _ q).1 p;rename_i S;have B:aX w (.optr (.st e)) S [.pointer (Y ⟨f,j,bo⟩)] (.deref::.unst::t) n (Y (f,j+fA e b)) ((u.drop (fA e b)).take n.size):=⟨f,j,u,bn,O,P,aX.uT (l:=Y (f,j)) k⟩;exact .pure (HA v i k y A) (.addr q (p.append B)) d
 ·rename_i id V r;split at d
  case h_2=>exact d.elim
  rename_i N M q;split at d
  case h_2=>exact d.elim
  rename_i e z;cases i:a7 D e with
  |false=>rw[i] at d;exact d.elim
  |true=>
   rw[i] at d;simp only[bG] at d;split at d
   case h_2=>exact d.elim
   rename_i t n k;rw[r] at m;cases m with|addr s p=>
   rw[q] at s;cases s;have:=p.ty;rw[z] at this;cases this;rename_i f j F;have B:aX w (.st e) (Y (f,j)) F (.unst::t) n (Y (f,j+fA e b)) ((F.drop (fA e b)).take n.size):=aX.uT (l:=Y (f,j)) k;exact .pure (HA v i k y A) (.addr q (p.append B)) d
 exact d.elim
def xc (
 tt:bm (bF×ah)) (i:bm (X×aF)) (h:bF) (c:ak) (d:X):h6:=
 match lF tt h with
 |none=>.bad
 |some f=>match c with
  |.val (.st a) k=>bif a7 f a then match rh a k d with
   |some ⟨b,l⟩=>.e4 (.val b l) []
   |none=>.bad
   else .bad
  |.ref id e=>match ar i id with
   |some ⟨g,c⟩=>match fm g e with
    |some (.st a)=>bif a7 f a then match fH a d with
     |some (j,b)=>vp g c id (e++(.unst::j)) b
     |none=>.bad
     else .bad
    |_=>.bad
   |none=>.bad
  |_=>.bad
theorem MN {j:ah} (q:lF E.tt x=Y j) (t:a7 j d=bp) (v:fH d b=Y (n,r)) (u:o.op=.field x c b) (y:a.eval c=cX (.st d) g) (B:fA d b+r.size<=g.length):(bL a.eval o).run E.P w=.ok (.value (cX r ((g.drop (fA d b)).take r.size))) w:=by
 obtain⟨k,G,m,p⟩:=lF.ok q;obtain⟨f,C,i,e⟩:=HB (iD.lay t p) v;have F:=e.pos;have s:k[b]?=Y f:=(by grind);simp only[nf] at i;have z:a.eval c=.agg g.toArray:=y;have A:(part f.type g.toArray f.offset).run E.P w=.ok (cX r ((g.drop (fA d b)).take r.size)) w:=by
  simp only[part,bY,e.isAgg,b1,i];cases h:o6 r with
  |true=>
   rw[E1 h];simp only[cf,bY,e.sizeOf,b1,cw];grind
  |false=>
   have l:=Je e h;rw[E0 h,l];have D:fA d b<g.length:=aa;have:(g.drop (fA d b)).take 1=[g[fA d b]]:=(by grind [List.drop_eq_getElem_cons]);simp_all
 simp[bL,u,z,Instr.field,b8 m,s,asAgg,A]
theorem U9 (m:cM C st a.tmps w I rt fp) (u:o.op=.field x c b) (d:(xc E.tt st.h x (aT st.g c) b).K Q):Yields E C st a w I rt fp o Q:=by
 have j:=m.aT c;unfold xc at d;split at d
 ·exact d.elim
 rename_i D s;generalize y:a.eval c=P at j;split at d
 ·rename_i f J l;cases e:a7 D f with
  |false=>rw[e] at d;exact d.elim
  |true=>
   rw[e] at d;simp only[bG] at d;split at d
   case h_2=>exact d.elim
   rename_i q R t;rw[l] at j;cases j with|val A=>
   obtain⟨B,i⟩:=HE t;obtain⟨H,O⟩:=HD (τ:=f) A t;have G:=A.len;simp only[ah.size] at G;exact .pure (MN s e i u y aa) (.val H) d
 ·rename_i id M l;split at d
  case h_2=>exact d.elim
  rename_i L J p;split at d
  case h_2=>exact d.elim
  rename_i f F;cases e:a7 D f with
  |false=>rw[e] at d;exact d.elim
  |true=>
   rw[e] at d;simp only[bG] at d;split at d
   case h_2=>exact d.elim
   rename_i B q i;rw[l] at j;cases j with|ref v n=>
   rename_i S z r;rw[p] at v;cases v;have:=n.ty;rw[F] at this;cases this;obtain⟨aw,N⟩:=m.Qe p n;have k:aX w (.st f) z r (.unst::B) q (z.map λk=>(k.1,k.2+fA f b)) ((r.drop (fA f b)).take q.size):=aX.uT i;exact Jv m p (n.append k) (MN s e i u y (by rw[aw];exact xd i)) d
 exact d.elim
def ve (f:bm (X×aF)) (b:ak):h6:=
 match b with
 |.val (.ptr h d) b=>.part d.den (λc=>b=Y c) (λc=>(.val (.ptr h d) (Y c),[]))
 |.ref id a=>match ar f id with
  |some ⟨i,_⟩=>match fm i a with
   |some (.optr _)=>.e4 (.ref id a) []
   |_=>.bad
  |none=>.bad
 |.addr id a=>.e4 (.addr id a) []
 |.eA e g=>.e4 (.eA e g) []
 |_=>.bad
theorem Xw (p:cM C st a.tmps w I rt fp) (M:o.op=.nilCheck c) (b:(ve st.h (aT st.g c)).K Q):Yields E C st a w I rt fp o Q:=by
 have d:=p.aT c;unfold ve at b;generalize N:a.eval c=F at d;split at b
 ·rename_i u l m e;obtain⟨m,rfl,b⟩:=b;rw[e] at d;cases d with|val D=>
  obtain⟨_,f,k,n,rfl,aw,z,A,B⟩:=D;exact .pure (v:=.pointer (Y ⟨f,k,bo⟩)) (by simp_all [bL,cX]) (.val (τ:=.ptr u l) (x:=Y m) (cs:=[.pointer (Y ⟨f,k,bo⟩)]) ⟨bn,f,k,n,bn,aw,z,A,B⟩) b
 ·rename_i id y e;split at b
  case h_2=>exact b.elim
  rename_i G m j;split at b
  case h_2=>exact b.elim
  rename_i l t;rw[e] at d;cases d with|ref q i=>
  rw[j] at q;cases q;have:=i.ty;rw[t] at this;cases this;obtain⟨f,k,n,rfl,H,J⟩:=pa (p.tree id _ j).1 i;exact .pure (v:=.pointer (Y ⟨f,k,bo⟩)) (by simp_all [bL,cX]) (.ref (τ':=.optr l) j i) b
 ·rename_i id y e;rw[e] at d;cases d with|addr j i=>
  exact .pure (by simp_all [bL]) (.addr j i) b
 ·rename_i L O e;rw[e] at d;cases d with|eA s r=>
  exact .pure (by simp_all [bL]) (.eA s r) b
 exact b.elim
def sj (d:bv ak) (b a:X):Prop:=
 match d with
 |none=>a=b
 |some (.val (.int _) c)=>c=(a:Z)
 |some _=>b6
def vy (tt:bm (bF×ah)) (k:bm (X×aF)) (j:bF) (d:ak) (g f:bv ak):h6:=
 match gX tt j with
 |none=>.bad
 |some h=>match d with
  |.val (.a2 l b) e=>bif a7 h b then
   .part ep (λa=>sj g 0 a.1/\sj f e.length a.2/\a.1<=a.2/\a.2<=e.length) (λa=>(.val (.a2 l b) ((e.take a.2).drop a.1),[])) else .bad
  |.ref id c=>match ar k id with
   |some ⟨i,d⟩=>match fm i c with
    |some (.osl b)=>bif a7 h b then
     .part (bm b.den×X×X) (λa=>eN i d c (.osl b) a.1/\sj g 0 a.2.1/\sj f a.1.length a.2.2/\a.2.1<=a.2.2/\a.2.2<=a.1.length) (λa=>(.view id c a.2.1 a.2.2,[])) else .bad
    |_=>.bad
   |none=>.bad
  |_=>.bad
def Gr (a:Act) (e:ahP) (c b:X):Prop:=
 match e with
 |none=>b=c
 |some f=>∃d,a.eval f=.int d b
theorem JN (p:gX E.tt x=Y r) (t:a7 r d=bp) {j f:ahP} (u:o.op=.slice x c j f bo) {g e:X} (y:a.eval c=.slice s g e) (k:Gr a j 0 i) (h:Gr a f g b) (D:i<=b) (F:b<=e):(bL a.eval o).run E.P w=.ok (.value (.slice (if e=i then s else s.map (·.add (i*d.size))) (b-i) (e-i))) w:=by
 obtain⟨H,B,_,m,n⟩:=gX.ok p;have v:=(n.lay t).sizeOf w;have aq:(0:Z)<=(b:Z)/\(b:Z)<=(e:Z):=⟨aa,aa⟩;have C:(0:Z)<=(i:Z)/\(i:Z)<=(b:Z):=⟨aa,aa⟩;have l:(ajP bp g e (j.map a.eval) (f.map a.eval) bo).run E.P w=.ok (i,b,e) w:=by
  cases j with
  |none=>
   obtain rfl:i=0:=k;cases f with
   |none=>obtain rfl:b=g:=h;simp[ajP]
   |some A=>obtain⟨z,q⟩:=h;simp_all [ajP,ak8,ai7]
  |some J=>
   obtain⟨I,G⟩:=k;cases f with
   |none=>obtain rfl:b=g:=h;simp_all [ajP,ak8,ai7]
   |some A=>
    obtain⟨z,q⟩:=h;simp_all [ajP,ak8,ai7]
 simp[bL,u,y,Instr.sliceAt,Instr.slice,b8 m,l,v]
theorem wv (h:cM C st a.tmps w I rt fp) {d:ahP} (c:sj (d.map (aT st.g)) b i):Gr a d b i:=by
 cases d with
 |none=>exact c
 |some f=>
  have:=h.aT f;simp only[i9,sj] at c;split at c
  ·grind
  ·rename_i k m e;simp only[eR] at e;rw[e] at this;subst c;generalize j:a.eval f=n at this;cases this with|val l=>obtain⟨_,rfl⟩:=l;exact⟨k,j⟩
  grind
theorem acW (e:cM C st a.tmps w I rt fp) {L y:ahP} (z:o.op=.slice T c L y bo) (b:(vy E.tt st.h T (aT st.g c) (L.map (aT st.g)) (y.map (aT st.g))).K Q):Yields E C st a w I rt fp o Q:=by
 have r:=e.aT c;unfold vy at b;split at b
 ·exact b.elim
 rename_i O v;generalize D:a.eval c=co at r;split at b
 ·rename_i ad i F u;cases f:a7 O i with
  |false=>rw[f] at b;exact b.elim
  |true=>
   rw[f] at b;obtain⟨⟨d,m⟩,⟨j,k,l,s⟩,b⟩:=b;simp only at j k l s b;rw[u] at r;cases r with|val ap=>
   obtain⟨_,P,q,rfl,aw,M,N⟩:=ap;have t:=JN (w:=w) v f z D (wv e j) (wv e k) l aa;have V:((F.take m).drop d).length=m-d:=(by grind);refine .pure t (.val (τ:=.a2 ad i) (x:=(F.take m).drop d) (cs:=[_]) ⟨bn,_,q-d,by rw[V],aa,?_,?_⟩) b
   ·intro bl;by_cases bs:q=d
    ·omega
    simp_all
   by_cases bx:m=d
   ·grind
   right;rcases N with rfl|⟨p,n,rfl,R,an⟩
   ·grind
   refine⟨p,n+d*i.size,by rw[ax aa];simp[aiU],R,λci av y=>?_⟩;grind
 ·rename_i id am u;split at b
  case h_2=>exact b.elim
  rename_i a0 av B;split at b
  case h_2=>exact b.elim
  rename_i i ce;cases f:a7 O i with
  |false=>rw[f] at b;exact b.elim
  |true=>
   rw[f] at b;obtain⟨⟨F,d,m⟩,⟨G,j,k,l,s⟩,b⟩:=b;simp only at G j k l s b;rw[u] at r;cases r with|ref J H=>
   rw[B] at J;cases J;obtain⟨rfl,a3,A,_⟩:=e.k0 B G H;obtain⟨P,q,rfl,A⟩:=A;rcases A with⟨rfl,rfl,rfl,_⟩|⟨p,n,a4,rfl,_,aw,M,N,an⟩
   ·have S:m=0:=(by grind);subst S;have U:d=0:=aa;subst U;exact .pure (JN (w:=w) v f z D (wv e j) (wv e k) (bc _) (bc _)) (.me id am) b
   have t:=JN (w:=w) v f z D (wv e j) (wv e k) l aa;have:(if q=d then Y (⟨p,n,bo⟩:Addr) else(Y (⟨p,n,bo⟩:Addr)).map (·.add (d*i.size)))=Y ⟨p,if q=d then n else n+d*i.size,bo⟩:=(by grind [aiU]);rw[this] at t;exact .pure t (.view B H l s M) b
 exact b.elim
end
end
section
def iK:(i:ah)->ahS->bv i.den
 |.int d,b=>match b with
  |[.int e n]=>if d=e then Y n else bo
  |_=>bo
 |.bool,b=>match b with
  |[.bool c]=>Y c
  |_=>bo
 |.str,b=>match b with
  |[.string s]=>Y s
  |_=>bo
 |.a2 _ _,b=>match b with
  |[.slice bo 0 0]=>Y []
  |_=>bo
 |.osl _,b=>match b with
  |[.slice bo 0 0]=>Y []
  |_=>bo
 |.ptr _ _,b=>match b with
  |[.pointer bo]=>Y bo
  |_=>bo
 |.st f,b=>iK f b
 |.pr a c,b=>match iK a (b.take a.size),iK c (b.drop a.size) with
  |some g,Y h=>Y (g,h)
  |_,_=>bo
 |.nil,b=>match b with
  |[]=>Y ()
  |_=>bo
 |.optr _,_=>bo
 |.eL,_=>bo
 |.mp _,_=>bo
 |.fx _ _,_=>bo
 |.fn _ _,_=>bo
theorem pR {M:eC->X->Prop} {w:bD}:∀{τ:ah} {d:ahS} {c:τ.den},iK τ d=Y c->aR M w τ d c []
 |.int j,d,c,b=>by
  simp only[iK] at b;split at b
  ·split at b
   ·rename_i f;cases b;subst f;exact⟨bn,bn⟩
   grind
  grind
 |.bool,d,c,b=>by simp only[iK] at b;split at b<;>cases b;exact⟨bn,bn⟩
 |.str,d,c,b=>by simp only[iK] at b;split at b<;>cases b;exact⟨bn,bn⟩
 |.a2 _ _,d,c,b=>by simp only[iK] at b;split at b<;>cases b;exact⟨bn,bo,0,bn,bc _,λ_=>rfl,.inl bn⟩
 |.osl _,d,c,b=>by simp only[iK] at b;split at b<;>cases b;exact⟨bo,0,bn,.inl ⟨bn,bn,bn,bn⟩⟩
 |.ptr _ _,d,c,b=>by simp only[iK] at b;split at b<;>cases b;exact⟨bn,bn⟩
 |.st i,d,c,b=>pR (τ:=i) (by grind [iK])
 |.pr a e,d,c,b=>by
  simp only[iK] at b;split at b
  ·rename_i c k g h;cases b;exact⟨[],[],bn,pR (τ:=a) g,pR (τ:=e) h⟩
  grind
 |.nil,d,c,b=>by simp only[iK] at b;split at b<;>cases b;exact⟨bn,bn⟩
 |.optr _,d,c,b=>by grind [iK]
 |.eL,d,c,b=>by grind [iK]
 |.mp _,d,c,b=>by grind [iK]
 |.fx _ _,d,c,b=>by grind [iK]
 |.fn _ _,d,c,b=>by grind [iK]
theorem MP (d:X):∀(e:ahS) (b:X) (a:ahQ),let f:=(e.zipIdx b).foldl (λa (h:Value×X)=>a.setIfInBounds (d+h.2) h.1) a
 f.size=a.size/\(∀c,c<d+b\/d+b+e.length<=c->f[c]?=a[c]?)/\(d+b+e.length<=a.size->∀c g,e[c]?=Y g->f[d+b+c]?=Y g)
 |[],b,a=>⟨bn,λ_ _=>rfl,λ_ c g i=>by grind⟩
 |x::e,b,a=>by obtain⟨j,k,l⟩:=MP d e (b+1) (a.setIfInBounds (d+b) x);grind [List.zipIdx_cons]
theorem zQ (k:X->bv ep):∀(j:bm (X×Value)) (c:ahQ),(∀a∈j,∃f b,k a.1=Y (f,b)/\a.2.cells.size=b/\f+b<=c.size)->(j.Pairwise λa g=>∀o b m q,k a.1=Y (o,b)->k g.1=Y (m,q)->o+b<=m\/m+q<=o)->∃g,ame k c j=Y g/\g.size=c.size/\(∀d,(∀a∈j,∀o b,k a.1=Y (o,b)->d<o\/o+b<=d)->g[d]?=c[d]?)/\(∀a∈j,∀o b,k a.1=Y (o,b)->∀d e,a.2.cells[d]?=Y e->g[o+d]?=Y e)
 |[],c,_,_=>⟨c,bn,bn,λ_ _=>rfl,λa h=>by cases h⟩
 |(i,e)::j,c,v,r=>by
  obtain⟨f,b,t,x,D⟩:=v (i,e) ac;simp only at t x;rw[mQ] at r;have w:e.cells.zipIdx.foldl (λl (a:Value×X)=>l.setIfInBounds (f+a.2) a.1) c=(e.cells.toList.zipIdx 0).foldl (λl (a:Value×X)=>l.setIfInBounds (f+a.2) a.1) c:=(by rw[<-Array.foldl_toList,Array.toList_zipIdx]);obtain⟨n,f2,p⟩:=MP f e.cells.toList 0 c;rw[<-w] at n f2 p;simp only[Array.length_toList] at f2 p;generalize A:e.cells.zipIdx.foldl (λl (a:Value×X)=>l.setIfInBounds (f+a.2) a.1) c=u at n f2 p;obtain⟨g,E,y,z,aJ⟩:=zQ k j u (λa h=>by
   grind) r.2
  refine⟨g,?_,by rw[y,n],λd s=>?_,λa h m q B d F C=>?_⟩
  ·grind [ame,decide]
  ·rw[z d (λa h=>s a (hY _ h)),f2 d (by have:=s (i,e) ac f b t;omega)]
  rcases fV.1 h with rfl|h
  ·grind
  grind
section
variable {E:fB} {C:eX} {st:aO} {a:Act} {w:bD} {I:X->Prop} {rt:X->ahS} {fp:X->ahY} {o:bR} {Q:ak->bm (X×aF)->Prop}
theorem fr.alloc {w:bD} {c:ahQ} {e:bF} {o:X} {d:ahS} (f:∀a b,d[a]?=Y b->c[o+a]?=Y b):fr (w.alloc (.cells c e)) w.heap.size o d:=λa b g=>by simp_all
theorem iE.alloc {w:bD} {a:ahQ} {c:bF} {d b:X} (e:b<=a.size):iE (w.alloc (.cells a c)) w.heap.size d b:=λg _ f=>by grind [World.cell?_alloc_new,World.frozen?_alloc_new]
theorem Yields.new {d:X} {t:aF} {cs:ahS} {f:ahY} {cells:ahQ} {T:bF} (k:ar st.h d=bo) (e:cM C st a.tmps w I rt fp) (n:(bL a.eval o).run E.P w=.ok (.value R) (w.alloc (.cells cells T))) (q:R=cX t.1 cs) (p:aR (bb I C.B) (w.alloc (.cells cells T)) t.1 cs t.2 f) (i:∀c∈f,c=w.heap.size) (l:f.Nodup) (m:Q (.ref d []) [(d,t)]):Yields E C st a w I rt fp o Q:=by
 refine⟨R,_,I,λ_=>cs,λ_=>f,.ref d [],[(d,t)],n,.alloc w _,λ_ b=>b,λ_ b=>.inl b,.one k p l (λc g=>?_),?_,m⟩
 ·rw[i c g];exact⟨bc _,ac,λb=>by have:=e.ib _ (.inl b);omega⟩
 rw[q];have j:ar ([(d,t)]++st.h) d=Y t:=(by rw[yr,dh,au bn]);refine .ref (t:=t) (τ':=t.1) (loc:=bo) j ?_;grind [aX.here,dh,fi]
def u7 (tt:bm (bF×ah)) (g:bm (X×ah)) (h:bm (X×aF)) (b:X) (f:bF) (e d:ak):h6:=
 match gX tt f,ar g b,ar h b with
 |some i,Y (.osl c),bo=>match mf c,e,d with
  |some j,.val (.int _) e,.val (.int _) d=>bif a7 i c&&b2 c.size 2000 then
   .part ep (λa=>e=(a.1:Z)/\d=(a.2:Z)/\a.1<=a.2/\a.2<=hB) (λa=>(.ref b [],[(b,⟨.osl c,bJ a.1 j⟩)])) else .bad
  |_,_,_=>.bad
 |_,_,_=>.bad
theorem WW (a:ahQ) (d b c:X) (e:Value) (_hz:0<a.size) (h:a[c]?=Y e) (g:b<d):(ak9 a (d*a.size))[b*a.size+c]?=Y e:=by have i:c<a.size:=(rR.1 h).1;have f:(b+1)*a.size<=d*a.size:=h5 _ g;rw[lu,lv] at f;grind [ajQ,Nat.add_mul_mod_self_right,Nat.mod_eq_of_lt,ak9]
theorem WY (p:cM C st a.tmps w I rt fp) {m:bM} (V:o.op=.makeSlice x m c) (e:(u7 E.tt l st.h b x (aT st.g m) (aT st.g c)).K Q):Yields E C st a w I rt fp o Q:=by
 have r:=p.aT m;have q:=p.aT c;unfold u7 at e;split at e
 case h_2=>exact e.elim
 rename_i bx v R co U;split at e
 case h_2=>exact e.elim
 rename_i ci a3 d2 a0 d1 an J H;cases j:(a7 bx v&&b2 v.size 2000) with
 |false=>rw[j] at e;exact e.elim
 |true=>
  rw[j] at e;simp only[cC] at j;obtain⟨⟨n,i⟩,⟨rfl,rfl,M,A⟩,e⟩:=e;simp only at M A e;have dl:=gT j.2;rw[J] at r;rw[H] at q;generalize am:a.eval m=d6 at r;generalize ad:a.eval c=d5 at q;cases r with|val bl=>cases q with|val bs=>
  obtain⟨_,rfl⟩:=bl;obtain⟨_,rfl⟩:=bs;obtain⟨ap,y,_,N,O⟩:=gX.ok R;have D:=O.lay j.1;obtain⟨t,k,aw,a4,d3,G⟩:=vK D an;obtain⟨d0,_,u,_⟩:=D.info;have z:=u.info;rw[aw] at z;cases z;have F:k.cells.size=v.size:=(by have:=(G (bb I C.B) w).len;omega);have S:(t.bytes:Z)*(i:Z)<=281474976710656:=(by have:t.bytes*i<=48000*hB:=mR (by have:=u.bytes;omega) A;grind [Int.natCast_mul,hB]);have s:=run_make (P:=E.P) w x y t k N aw a4 a3 a0 (n:Z) (i:Z) aa aa S (by grind [hB]);simp only[fC,u.size] at s;rw[<-F] at s;refine .new (d:=b) (cells:=ak9 k.cells (i*k.cells.size)) (T:=y) (cs:=[.slice (Y ⟨w.heap.size,0,bo⟩) n i]) (f:=[w.heap.size]) U p ?_ bn ?_ ac ac e
  ·simp[bL,V,am,ad,cX,s]
  refine⟨Y ⟨w.heap.size,0,bo⟩,i,ac,.inr ⟨w.heap.size,0,bJ n [],bn,ac,ac,by grind,iE.alloc (by grind [size_madeCells]),λav ce L ds cv=>?_⟩⟩;have c2:av<n:=(by grind);obtain rfl:ci=ce:=(by grind);obtain rfl:[]=L:=(by grind);refine⟨k.cells.toList,aa,fr.alloc (λap d4 c1=>?_),G _ _⟩;rw[nf,<-F];grind [WW]
def wi (tt:bm (bF×ah)) (d:bm (X×ah)) (e:bm (X×aF)) (a:X) (c:bF):h6:=
 match ar tt c,ar d a,ar e a with
 |some f,Y b,bo=>match mf b with
  |some g=>bif a7 f b then .e4 (.ref a []) [(a,⟨.optr b,g⟩)] else .bad
  |none=>.bad
 |_,_,_=>.bad
theorem Yields.box {g:r.den} {cs:ahS} (p:ar st.h b=bo) (i:cM C st a.tmps w I rt fp) (_hT:fj E.P r x) (s:(bL a.eval o).run E.P w=.ok (.value (.pointer (Y ⟨w.heap.size,0,bo⟩))) (w.alloc (.cells cs.toArray x))) (u:∀k,(∀e c,bb I C.B e c->c5 w k c)->aR (bb I C.B) k r cs g []) (q:Q (.ref b []) [(b,⟨.optr r,g⟩)]):Yields E C st a w I rt fp o Q:=by have l:∀e c,bb I C.B e c->c5 w (w.alloc (.cells cs.toArray x)) c:=λe c m=>.of_heap ((hj.alloc w _).heap c (i.ib c (mX m)));have j:=u _ l;have n:=j.len;refine .new (d:=b) (t:=⟨.optr r,g⟩) (cs:=[.pointer (Y ⟨w.heap.size,0,bo⟩)]) (f:=[w.heap.size]) p i s bn ⟨w.heap.size,0,[],cs,bn,bn,n,fr.alloc (λy z v=>by grind),iE.alloc (by grind),j⟩ ac ac q
theorem SD (g:cM C st a.tmps w I rt fp) (k:o.op=.alloc x) (c:(wi E.tt l st.h b x).K Q):Yields E C st a w I rt fp o Q:=by
 unfold wi at c;split at c
 case h_2=>exact c.elim
 rename_i f q i s j;split at c
 case h_2=>exact c.elim
 rename_i y m;cases d:a7 f q with
 |false=>rw[d] at c;exact c.elim
 |true=>
  rw[d] at c;have e:=(E.ok x f i).lay d;obtain⟨t,r,aw,n,u,p⟩:=vK e m;refine .box (cs:=r.cells.toList) j g e ?_ (λv _=>p _ _) c;simp[bL,k,Instr.alloc,aih,aiw,aw,n,newVar,aiH]
def yK (tt:bm (bF×ah)) (e:bm (X×aF)) (a:X) (d:bF) (b:ak):h6:=
 match ar tt d,ar e a with
 |some f,bo=>match b with
  |.val c b=>bif a7 f c then .e4 (.ref a []) [(a,⟨.optr c,b⟩)] else .bad
  |_=>.bad
 |_,_=>.bad
theorem Te (j:cM C st a.tmps w I rt fp) (t:o.op=.box x c) (d:(yK E.tt st.h b x (aT st.g c)).K Q):Yields E C st a w I rt fp o Q:=by
 have f:=j.aT c;unfold yK at d;split at d
 case h_2=>exact d.elim
 rename_i l r s;split at d
 case h_2=>exact d.elim
 rename_i y B p;cases e:a7 l y with
 |false=>rw[e] at d;exact d.elim
 |true=>
  rw[e] at d;rw[p] at f;generalize u:a.eval c=z at f;cases f with|val i=>
  rename_i m;have k:=(E.ok x l r).lay e;refine .box (cs:=m) s j k ?_ (λA q=>i.mono (λv n e=>⟨e,q v n e⟩) ac) d;simp[bL,t,u,akp,newVar,aiH,ow k i.len i.one]
def coe (a:ah) (b:ak):bv a.den:=
 match b with
 |.val d b=>if h:d=a then Y (h▸b) else bo
 |.dg c=>iK a c.cells.toList
 |_=>bo
def yO (a:ah):bm ak->bv (bm a.den)
 |[]=>Y []
 |x::c=>match coe a x,yO a c with
  |some d,Y b=>Y (d::b)
  |_,_=>bo
theorem GC (h:fj E.P d x) (c:cN e w u rt fp V R) {f:d.den} (a:coe d V=Y f):aR e w d R.cells.toList f []:=by
 unfold coe at a;split at a
 ·rename_i j i;split at a
  ·rename_i g;subst g;cases a;cases c with|val b=>
   rw[ow h b.len b.one];exact b
  grind
 ·cases c;exact pR a
 grind
def vv:bm (X×bM)->X->bA
 |[],_=>bp
 |q::b,a=>bH q.1 a&&vv b (a+1)
def ww (tt:bm (bF×ah)) (g:bm (X×ah)) (i:bm (X×aF)) (h:bM->ak) (b:X) (f:bF) (d:X) (c:bm (X×bM)):h6:=
 match gX tt f,ar i b with
 |some e,bo=>
  let a:=match ar g b with|some (.osl a)=>a|_=>e
  bif a7 e a&&b2 a.size 2000&&b2 d 1000&&vv c 0&&bH c.length d then
   match yO a (c.map λj=>h j.2) with
   |some k=>.e4 (.ref b []) [(b,⟨.osl a,k⟩)]
   |none=>.bad
  else .bad
 |_,_=>.bad
theorem LV {d:ah}:∀{c:bm ak} {b:bm d.den},yO d c=Y b->b.length=c.length/\∀(e:X) (f:d.den),b[e]?=Y f->∃y:ak,c[e]?=Y y/\coe d y=Y f
 |[],b,a=>by cases a;grind
 |y::c,b,a=>by
  simp only[yO] at a;split at a
  ·rename_i l k j g;cases a;obtain⟨h,i⟩:=LV g;grind
  grind
theorem rG:∀{e:bm (X×bM)} {d:X},vv e d=bp->∀(a:X) (b:X×bM),e[a]?=Y b->b.1=d+a
 |[],_,_,a,b,c=>by grind
 |x::e,d,c,a,b,f=>by
  simp only[vv,cC] at c;cases a with
  |zero=>simp_all
  |succ a=>have:=rG c.2 a b (by grind);omega
theorem Ti (G:cM C st a.tmps w I rt fp) {j:bU (X×bM)} (d1:o.op=.buildSlice x b j) (k:(ww E.tt l st.h (aT st.g) i x b j.toList).K Q):Yields E C st a w I rt fp o Q:=by
 unfold ww at k;split at k
 case h_2=>exact k.elim
 rename_i a0 cv c1;generalize ft:(match ar l i with|some (.osl e)=>e|_=>a0)=e at k;simp only at k;cases n:(a7 a0 e&&b2 e.size 2000&&b2 b 1000&&vv j.toList 0&&bH j.toList.length b) with
 |false=>rw[n] at k;exact k.elim
 |true=>
  rw[n] at k;simp only[cC] at n;obtain⟨⟨⟨⟨a4,A⟩,D⟩,F⟩,O⟩:=n;have A:=gT A;have D:=gT D;have O:j.toList.length=b:=fv O;simp only[bG] at k;split at k
  case h_2=>exact k.elim
  rename_i r d6;obtain⟨am,M,_,ci,co⟩:=gX.ok cv;have u:=co.lay a4;obtain⟨J,ek,an,_⟩:=u.info;have fn:=u.pos;obtain⟨bl,bs⟩:=LV d6;simp only[ff] at bl;have d5:r.length=b:=aa;have ex:b*e.size<=16777216:=(by have:b*e.size<=1000*2000:=mR D A;omega);have R:∀(c:X) (m:X×bM),j.toList[c]?=Y m->∃p:e.den,r[c]?=Y p/\aR (bb I C.B) w e (a.eval m.2).cells.toList p []:=(by intro c m v;have ds:c<r.length:=(by grind);obtain⟨f8,aq,y⟩:=bs c r[c] ac;rw[jg,v] at aq;simp only[i9,eR] at aq;subst aq;exact⟨r[c],ac,GC u (G.aT m.2) y⟩);obtain⟨ad,c2,dl⟩:∃a3:ahQ,(b*e.size=0->a3=#[])/\(b*e.size≠0->∃s,(aih M).run E.P w=.ok s w/\a3=s.cells):=by
   by_cases q:b*e.size=0
   ·simp_all
   obtain⟨s,_,d8⟩:=fj.HT u;exact⟨s.cells,λk=>absurd k q,λ_=>⟨s,by simp[aih,aiw,an.info,d8 J an.info],bn⟩⟩
  obtain⟨ap,av,f3,f4,aJ⟩:=zQ (λJ=>Y (J*e.size,e.size)) (j.toList.map λm=>(m.1,a.eval m.2)) ((Array.range (b*e.size)).map (ad[· %ad.size]!)) (by
   intro m d3;obtain⟨f1,d2,rfl⟩:=eY.1 d3;obtain⟨c,v,rfl⟩:=ht.1 d2;have z:j.toList[c]?=Y j.toList[c]:=ac;obtain⟨p,_,H⟩:=R c _ z;have el:=rG F c _ z;have:(c+1)*e.size<=b*e.size:=h5 _ aa;rw[lu,lv] at this;refine⟨_,_,bn,by have:=H.len;omega,?_⟩;grind) (by
   rw[h4];intro c L v d0 ds fT f5 f0 f6 aq y;simp only[List.getElem_map,eR,ij] at aq y;simp only[ff] at v d0;have bx:=rG F c j.toList[c] ac;have f2:=rG F L j.toList[L] ac;obtain⟨rfl,rfl⟩:=aq;obtain⟨rfl,rfl⟩:=y;left;rw[bx,f2];have:(0+c+1)*e.size<=(0+L)*e.size:=h5 _ aa;grind)
  have fs:ap.size=b*e.size:=(by grind);refine .new (d:=i) (t:=⟨.osl e,r⟩) (cells:=ap) (T:=M) (cs:=[.slice (Y ⟨w.heap.size,0,bo⟩) b b]) (f:=[w.heap.size]) c1 G ?_ bn ?_ ac ac k
  ·have d4:=u.sizeOf w;have fl:¬(16777216<b*e.size):=aa;have S:(akq (λp=>(p.fst,a.eval p.snd)) j).toList=j.toList.map λm=>(m.1,a.eval m.2):=ac;simp only[bL,d1,Instr.buildSlice,bY,b8 ci,b1,d4];rw[ax aa];by_cases q:b*e.size=0
   ·rw[au q];obtain rfl:=c2 q;rw[S];simp only[bY,cw,b1,av,aiH,newObj];rfl
   rw[ax q];obtain⟨s,d7,rfl⟩:=dl q;rw[S];simp only[bY,cw,b1,d7,av,aiH,newObj];rfl
  refine⟨Y ⟨w.heap.size,0,bo⟩,b,by rw[d5],.inr ⟨w.heap.size,0,bJ b [],bn,ac,by grind,(by grind),iE.alloc aa,λc p ce H em=>?_⟩⟩;have v:c<b:=(by grind);obtain rfl:[]=ce:=(by grind);have z:j.toList[c]?=Y (j.toList[c]'(by omega)):=by simp
  obtain⟨f7,V,U⟩:=R c _ z;rw[H] at V;obtain rfl:=gC V;refine⟨_,U.len,fr.alloc (λam d9 eq=>?_),U.mono (λfz N n=>⟨n,.of_heap ((hj.alloc w _).heap N (G.ib N (mX n)))⟩) ac⟩;have:=aJ (j.toList[c].1,a.eval j.toList[c].2) (eY.2 ⟨j.toList[c],cR _,bn⟩) _ _ rfl am d9 (by grind);grind [rG]
end
end
section
def mb (a:bm (X×bM)) (b:X):ahP:=ar a b
def p6 (
 g:bM->ak) (e:bm (X×bM)):ah->X->bv aF
 |.pr a h,d=>
  match(match mb e d with
   |none=>match mf a with
    |some j=>Y (⟨a,j⟩:aF)
    |none=>bo
   |some c=>match g c with
    |.val f b=>bif a7 a f then Y ⟨f,b⟩ else bo
    |.dg i=>match iK a i.cells.toList with
     |some b=>Y ⟨a,b⟩
     |none=>bo
    |_=>bo),p6 g e h (d+1) with
  |some c,Y b=>Y ⟨.pr c.1 b.1,(c.2,b.2)⟩
  |_,_=>bo
 |.nil,_=>Y ⟨.nil,()⟩
 |_,_=>bo
def mx:bm (X×bM)->X->bA
 |[],_=>bp
 |q::b,a=>b2 a q.1&&mx b (q.1+1)
def gH:ah->X
 |.pr _ a=>gH a+1
 |_=>0
theorem HX:∀{e:bm (X×bM)} {d:X},mx e d=bp->∀b∈e,d<=b.1
 |[],_,_,b,a=>by cases a
 |x::e,d,a,b,c=>by
  simp only[mx,cC] at a;rcases fV.1 c with rfl|c
  ·simp_all
  have:=HX a.2 b c;have:=gT a.1;omega
def HZ:∀{b:bm (X×bM)} {d:X},mx b d=bp->b.Pairwise λc f=>c.1<f.1
 |[],_,_=>akr
 |x::b,d,a=>by simp only[mx,cC] at a;exact ant (λc e=>by have:=HX a.2 c e;omega) (HZ a.2)
theorem z9 {e:Type}:∀{d:bm (X×e)} {b:X} {c:e},ar d b=Y c->(b,c)∈d
 |[],_,_,a=>by cases a
 |(f,v0)::r,b,c,a=>by
  rw[dh] at a;split at a
  ·grind
  exact hY _ (z9 a)
def Il {g:Type}:∀{e:bm (X×g)} {d:X},ar e d=bo->∀c∈e,c.1≠d
 |[],_,_,c,a=>by cases a
 |(h,v0)::r,d,b,c,a=>by
  rw[dh] at b;split at b
  ·cases b
  rename_i f;rcases fV.1 a with rfl|a
  ·exact f
  exact Il b c a
theorem ry {j:b0}:∀{u:ah} {l:bm aio} {e:X} {f:ahS},iD j u l e f->∀d,d<gH u->∃h i,fH u d=Y (h,i)
 |.pr a g,k::m,e,f,c,0,_=>⟨_,_,bn⟩
 |.pr a g,k::m,e,f,c,d+1,b=>by obtain⟨h,i,n⟩:=ry (u:=g) c.2.2.2.2 d (by grind [gH]);grind [fH]
 |.pr _ _,[],_,_,c,_,_=>c.elim
 |.int _,_,_,_,_,_,b=>by grind [gH]
 |.bool,_,_,_,_,_,b=>by grind [gH]
 |.str,_,_,_,_,_,b=>by grind [gH]
 |.a2 _ _,_,_,_,_,_,b=>by grind [gH]
 |.osl _,_,_,_,_,_,b=>by grind [gH]
 |.ptr _ _,_,_,_,_,_,b=>by grind [gH]
 |.optr _,_,_,_,_,_,b=>by grind [gH]
 |.st _,_,_,_,_,_,b=>by grind [gH]
 |.nil,_,_,_,_,_,b=>by grind [gH]
 |.eL,_,_,_,_,_,b=>by grind [gH]
theorem uV:∀{u:ah} {e c:X} {s s':bm aZ} {t t':ah},fH u e=Y (s,t)->fH u c=Y (s',t')->e<c->fA u e+t.size<=fA u c
 |.pr a f,0,c+1,s,s',t,t',b,d,_=>by simp only[fH,eR,ij] at b;obtain⟨_,rfl⟩:=b;simp[fA]
 |.pr a f,e+1,c+1,s,s',t,t',b,d,k=>by
  simp only[fH] at b d;cases g:fH f e with
  |none=>grind
  |some i=>
   cases h:fH f c with
   |none=>grind
   |some j=>
    rw[g] at b;rw[h] at d;simp only[eR,ij] at b d;obtain⟨_,rfl⟩:=b;obtain⟨_,rfl⟩:=d;have:=uV (u:=f) (s:=i.1) (t:=i.2) (s':=j.1) (t':=j.2) g h aa;grind [fA]
 |.int _,_,_,_,_,_,_,b,_,_=>by cases b
 |.bool,_,_,_,_,_,_,b,_,_=>by cases b
 |.str,_,_,_,_,_,_,b,_,_=>by cases b
 |.a2 _ _,_,_,_,_,_,_,b,_,_=>by cases b
 |.osl _,_,_,_,_,_,_,b,_,_=>by cases b
 |.ptr _ _,_,_,_,_,_,_,b,_,_=>by cases b
 |.optr _,_,_,_,_,_,_,b,_,_=>by cases b
 |.st _,_,_,_,_,_,_,b,_,_=>by cases b
 |.nil,_,_,_,_,_,_,b,_,_=>by cases b
 |.eL,_,_,_,_,_,_,b,_,_=>by cases b
theorem HC:∀{u:ah} {c:X} {s:bm aZ} {t:ah},fH u c=Y (s,t)->c<gH u
 |.pr a d,0,_,_,_=>by simp[gH]
 |.pr a d,c+1,s,t,b=>by
  simp only[fH] at b;split at b
  ·rename_i e f;have:=HC (u:=d) (s:=e.1) (t:=e.2) f;grind [gH]
  grind
 |.int _,_,_,_,b=>by cases b
 |.bool,_,_,_,b=>by cases b
 |.str,_,_,_,b=>by cases b
 |.a2 _ _,_,_,_,b=>by cases b
 |.osl _,_,_,_,b=>by cases b
 |.ptr _ _,_,_,_,b=>by cases b
 |.optr _,_,_,_,b=>by cases b
 |.st _,_,_,_,b=>by cases b
 |.nil,_,_,_,b=>by cases b
 |.eL,_,_,_,b=>by cases b
theorem HY:∀{d:bm (X×bM)} {e:X} {b:X×bM},mx d e=bp->b∈d->mb d b.1=Y b.2
 |[],_,_,_,a=>by cases a
 |x::d,e,b,a,c=>by
  simp only[mx,cC] at a;obtain⟨f,g⟩:=x;unfold mb;rw[dh];rcases fV.1 c with rfl|c
  ·rw[au bn]
  have:=HX a.2 b c;simp only at this;rw[ax aa];exact HY a.2 c
section
variable {E:fB} {C:eX} {st:aO} {a:Act} {w:bD} {I:X->Prop} {rt:X->ahS} {fp:X->ahY} {o:bR} {Q:ak->bm (X×aF)->Prop}
def yJ (tt:bm (bF×ah)) (e:bM->ak) (d:bF) (a:bm (X×bM)):h6:=
 match lF tt d with
 |none=>.bad
 |some c=>bif mx a 0&&a.all (λf=>cb f.1 (gH c)) then match p6 e a c 0 with
  |some b=>.e4 (.val (.st b.1) b.2) []
  |none=>.bad
  else .bad
theorem N8 {z:b0} {l:eC->X->Prop} {b:bm (X×aF)} {q:bM->ak} {j:bM->Value} (v:∀c,cN l w b rt fp (q c) (j c)) {parts:bm (X×bM)} {cells:ahS}:∀{u:ah} {n:X} {B:bm aio} {off:X} {zs:ahS} {i:aF},iD z u B off zs->p6 q parts u n=Y i->cells.length=off+u.size->(∀e p d,fH u e=Y (p,d)->(∀c,mb parts (n+e)=Y c->(j c).cells.size=d.size/\(cells.drop (off+fA u e)).take d.size=(j c).cells.toList)/\(mb parts (n+e)=bo->(cells.drop (off+fA u e)).take d.size=(zs.drop (fA u e)).take d.size))->aR l w i.1 (cells.drop off) i.2 []/\i.1.size=u.size
 |.pr a A,n,L::V,off,zs,i,r,g,E,o=>by
  simp only[p6] at g;split at g
  case h_2=>cases g
  rename_i c am h I;cases g;obtain⟨M,C,N,⟨R,an,aw,T,U⟩,D⟩:=r;have t:=o 0 _ a bn;simp only[nc,fA,lV] at t;have O:aR l w c.1 ((cells.drop off).take a.size) c.2 []/\c.1.size=a.size:=by
   split at h
   ·grind [vK]
   rename_i k F;have f:=v k;obtain⟨S,x⟩:=t.1 k F;split at h
   ·rename_i d K m;cases s:a7 a d with
    |false=>grind
    |true=>
     rw[s] at h;cases h;rw[m] at f;rw[x];generalize H:j k=J at f;cases f with|val y=>
     rw[ow (C.lay s) y.len y.one];grind [a7.size]
   ·rename_i J m;split at h
    ·rename_i K Q;cases h;rw[m] at f;rw[x];generalize H:j k=ad at f;cases f;grind [pR]
    grind
   grind
  have P:=N8 v (parts:=parts) (cells:=cells) (u:=A) (n:=n+1) (off:=off+a.size) (zs:=zs.drop a.size) D I (by grind [ah.size]) (by
   intro e p d G;have:=o (e+1) (.snd::p) d (by simp[fH,G]);grind [ajM,fA])
  refine⟨⟨[],[],bn,?_,?_⟩,by grind [ah.size]⟩
  ·grind
  simp_all
 |.nil,n,[],off,zs,i,r,g,E,o=>by cases g;exact⟨⟨bn,by grind [List.drop_eq_nil_iff,ah.size]⟩,bn⟩
 |.pr _ _,_,[],_,_,_,b,_,_,_=>b.elim
 |.nil,_,_::_,_,_,_,b,_,_,_=>b.elim
 |.int _,_,_,_,_,_,b,_,_,_=>by cases b
 |.bool,_,_,_,_,_,b,_,_,_=>by cases b
 |.str,_,_,_,_,_,b,_,_,_=>by cases b
 |.a2 _ _,_,_,_,_,_,b,_,_,_=>by cases b
 |.osl _,_,_,_,_,_,b,_,_,_=>by cases b
 |.ptr _ _,_,_,_,_,_,b,_,_,_=>by cases b
 |.optr _,_,_,_,_,_,b,_,_,_=>by cases b
 |.st _,_,_,_,_,_,b,_,_,_=>by cases b
 |.eL,_,_,_,_,_,b,_,_,_=>by cases b
theorem N9 {z:b0} {m:eC->X->Prop} {b:bm (X×aF)} {o:bM->ak} {h:bM->Value} (p:∀c,cN m w b rt fp (o c) (h c)) {s:bm (X×bM)}:∀{u:ah} {n:X} {B:bm aio} {r:X} {y:ahS} {x:aF},iD z u B r y->p6 o s u n=Y x->∀e v g,fH u e=Y (v,g)->∀c,mb s (n+e)=Y c->(h c).cells.size=g.size
 |.pr a A,n,N::T,r,y,x,E,k,e,v,g,d,c,q=>by
  simp only[p6] at k;split at k
  case h_2=>cases k
  rename_i V ad i I;obtain⟨O,C,P,⟨Q,am,aw,R,S⟩,D⟩:=E;cases e with
  |zero=>
   simp only[fH,eR,ij] at d;obtain⟨_,rfl⟩:=d;rw[nc] at q;rw[q] at i;have f:=p c;simp only at i;split at i
   ·rename_i g L j;cases F:a7 a g with
    |false=>grind
    |true=>
     rw[j] at f;generalize H:h c=K at f;cases f with|val l=>
     rw[ow (C.lay F) l.len l.one];have:=l.len;grind [a7.size]
   ·rename_i K j;split at i
    ·rename_i L J;rw[j] at f;generalize H:h c=U at f;cases f;have:=(pR (M:=m) (w:=w) J).len;omega
    grind
   grind
  |succ e=>
   simp only[fH] at d;split at d
   ·rename_i t G;simp only[eR,ij] at d;obtain⟨_,rfl⟩:=d;exact N9 p (u:=A) (n:=n+1) D I e t.1 t.2 G c (by rwa[(aa:n+1+e=n+(e+1))])
   grind
 |.pr _ _,_,[],_,_,_,b,_,_,_,_,_,_,_=>b.elim
 |.nil,_,_,_,_,_,_,_,_,_,_,d,_,_=>by cases d
 |.int _,_,_,_,_,_,b,_,_,_,_,_,_,_=>by cases b
 |.bool,_,_,_,_,_,b,_,_,_,_,_,_,_=>by cases b
 |.str,_,_,_,_,_,b,_,_,_,_,_,_,_=>by cases b
 |.a2 _ _,_,_,_,_,_,b,_,_,_,_,_,_,_=>by cases b
 |.osl _,_,_,_,_,_,b,_,_,_,_,_,_,_=>by cases b
 |.ptr _ _,_,_,_,_,_,b,_,_,_,_,_,_,_=>by cases b
 |.optr _,_,_,_,_,_,b,_,_,_,_,_,_,_=>by cases b
 |.st _,_,_,_,_,_,b,_,_,_,_,_,_,_=>by cases b
 |.eL,_,_,_,_,_,b,_,_,_,_,_,_,_=>by cases b
theorem run_places {P:b0} (w:bD):∀(d:ah) (h:bm aio) (c:X) (g:ahS),iD P d h c g->(h.mapM λe=>do ai8 (e.offset,<-aiM e.type):Sem ah0).run P w=.ok ((bI (gH d)).map λf=>(c+fA d f,match fH d f with|some k=>k.2.size|none=>0)) w
 |.pr a i,e::l,c,g,b=>by have j:=run_places w i l (c+a.size) (g.drop a.size) b.2.2.2.2;simp only[List.mapM_cons,bY,b.2.1.sizeOf,b1,cw,j];simp only[gH,List.range_succ_eq_map,ie,oJ,b.1,fA,nc,fH];congr 2;apply ia;intro f _;simp only[Function.comp,fA,fH];grind
 |.nil,[],_,_,_=>rfl
 |.pr _ _,[],_,_,b=>b.elim
 |.nil,_::_,_,_,b=>b.elim
 |.int _,_,_,_,b=>by cases b
 |.bool,_,_,_,b=>by cases b
 |.str,_,_,_,b=>by cases b
 |.a2 _ _,_,_,_,b=>by cases b
 |.osl _,_,_,_,b=>by cases b
 |.ptr _ _,_,_,_,b=>by cases b
 |.optr _,_,_,_,b=>by cases b
 |.st _,_,_,_,b=>by cases b
 |.eL,_,_,_,b=>by cases b
theorem Tb (ap:cM C st a.tmps w I rt fp) {i:bU (X×bM)} (c1:o.op=.build x i) (e:(yJ E.tt (aT st.g) x i.toList).K Q):Yields E C st a w I rt fp o Q:=by
 unfold yJ at e;split at e
 ·exact e.elim
 rename_i b O;cases p:(mx i.toList 0&&i.toList.all (λc=>cb c.1 (gH b))) with
 |false=>rw[p] at e;exact e.elim
 |true=>
  rw[p] at e;simp only[cC,gY] at p;obtain⟨a3,F⟩:=p;simp only[bG] at e;split at e
  case h_2=>exact e.elim
  rename_i d6 av;obtain⟨q,r,j,a4,d9,bl,bs,m,ek⟩:∃q r j,E.P.info? x=some q/\q.size=b.size/\q.zero=some (.agg j)/\E.P.underlying x=some (.struct r)/\iD E.P b r.toList 0 j.toList/\j.size=b.size:=by
   unfold lF at O;split at O
   ·rename_i f3 ce;cases O;obtain⟨_,q,r,j,aw,fl,_,fn,fs,ft,fz⟩:=E.ok x _ ce;grind
   grind
  have S:=N9 (λd=>ap.aT d) m av;have R:=run_places (P:=E.P) w b r.toList 0 j.toList m;simp only[nf] at R S;generalize em:((bI (gH b)).map λk=>(fA b k,match fH b k with|some c=>c.2.size|none=>0))=U at R;have z:∀k M l,fH b k=Y (M,l)->k<gH b->U.toArray[k]?=Y (fA b k,l.size):=(by grind);obtain⟨L,d2,fT,d3,aJ⟩:=zQ (λq=>U.toArray[q]?) (i.toList.map λc=>(c.1,a.eval c.2)) j (by
   intro c A;obtain⟨h,G,rfl⟩:=eY.1 A;have t:h.1<gH b:=gT (F h G);obtain⟨M,l,f⟩:=ry m h.1 t;refine⟨_,_,z _ _ _ f t,S _ _ _ f h.2 ?_,by simp_all [xd]⟩;grind [HY]) (by
   rw[oK];refine(HZ a3).imp_of_mem ?_;intro c V A ds t d1 d4 ex f0 aq ad;have D:c.1<gH b:=gT (F c A);have a0:V.1<gH b:=gT (F V ds);obtain⟨d5,d7,s⟩:=ry m c.1 D;obtain⟨f1,f2,p⟩:=ry m V.1 a0;rw[z _ _ _ s D] at aq;rw[z _ _ _ p a0] at ad;cases aq;cases ad;exact .inl (uV s p t))
  have eq:L.toList.length=b.size:=(by grind);obtain⟨an,d8⟩:=N8 (w:=w) (λd=>ap.aT d) (parts:=i.toList) (cells:=L.toList) (u:=b) (n:=0) (off:=0) m av aa (by
   intro J M l f;have ci:J<gH b:=HC f;simp only[nf];have el:=xd f;refine⟨λd H=>?_,λH=>?_⟩
   ·have co:=z9 H;have T:=S J M l f d H;refine⟨T,?_⟩;apply hM;intro B;rcases cO B l.size with y|y
    ·obtain⟨N,d0⟩:∃N,(a.eval d).cells[B]?=some N:=⟨_,Ba aa⟩;have:=aJ (J,a.eval d) (eY.2 ⟨(J,d),co,bn⟩) _ _ (z _ _ _ f ci) B N d0;grind
    grind
   apply hM;intro B;rcases cO B l.size with y|y
   ·rw[rZ y,rZ y,pA,pA];simp only[Bb];refine d3 _ ?_;intro c A d1 d4 aq;obtain⟨h,G,rfl⟩:=eY.1 A;have cv:=Il H h G;have D:h.1<gH b:=gT (F h G);obtain⟨d5,d7,s⟩:=ry m h.1 D;rw[z _ _ _ s D] at aq;cases aq;rcases Nat.lt_or_gt_of_ne cv with t|bx
    ·have:=uV s f t;omega
    have:=uV f s bx;omega
   grind)
  rw[lV] at an;refine .pure (v:=.agg L) ?_ (.val (τ:=.st d6.1) (cs:=L.toList) an) e;have dl:(akq (λd=>(d.fst,a.eval d.snd)) i).toList=i.toList.map λc=>(c.1,a.eval c.2):=ac;have c2:(r.mapM λam=>do ai8 (am.offset,<-aiM am.type):Sem (bU ep)).run E.P w=.ok U.toArray w:=(by rw[ala,Sem.run_map,R];rfl);have T:(aih x).run E.P w=.ok (.agg j) w:=(by simp[aih,aiw,a4,bl]);simp only[bL,c1,Instr.build,bY,T,b8 bs,b1,c2,dl,Value.cells,d2];rfl
end
end
section
def gk {α:Type}:bm (Z×α)->Z->bv α
 |[],_=>bo
 |(a,v)::r,k=>if a=k then Y v else gk r k
def kD {α:Type}:bm (Z×α)->Z->α->bm (Z×α)
 |[],k,v=>[(k,v)]
 |(a,u)::r,k,v=>if k<a then(k,v)::(a,u)::r else if k=a then(k,v)::r else(a,u)::kD r k v
def jc {α:Type} (l:bm (Z×α)) (a:Z):bm (Z×α):=l.filter λb=>br (b.1≠a)
def mB {α:Type} (b:bv (bm (Z×α)×X)) (a:Z):bv α:=b.bind λc=>gk c.1 a
def xB {α:Type} (a:bv (bm (Z×α)×X)):Z:=match a with|some b=>(b.1.length:Z)|none=>0
section
variable {α:Type}
theorem Ej:∀{l:bm (Z×α)} {c:Z} {d:α},gk l c=Y d->(c,d)∈l
 |[],_,_,b=>by cases b
 |(a,u)::r,c,d,b=>by
  simp only[gk] at b;split at b
  ·grind
  exact hY _ (Ej b)
theorem NT:∀{l:bm (Z×α)} {c:Z},gk l c=bo->∀d,(c,d)∉l
 |[],_,_,_=>by simp
 |(a,u)::r,c,b,d=>by
  simp only[gk] at b;split at b
  ·cases b
  rename_i g;intro f;rcases fV.1 f with e|e
  ·grind
  exact NT b d e
theorem QK {l:bm (Z×α)} (c:l.Pairwise (λa b=>a.1<b.1)):(l.map (·.1)).Nodup:=by grind
theorem WU {l:bm (Z×α)} (c:(l.map (·.1)).Nodup) {a:Z} {b:α}:gk l a=Y b↔(a,b)∈l:=by
 constructor
 ·exact Ej
 intro d
 induction l with
 |nil=>cases d
 |cons e h g=>
  obtain⟨f,i⟩:=e;simp only[ie,ko] at c;simp only[gk];grind
theorem NU:∀{l:bm (Z×α)} {d:Z} {e:α} {c:Z×α},c∈kD l d e->c=(d,e)\/c∈l
 |[],d,e,c,b=>by grind [kD]
 |(a,u)::r,d,e,c,b=>by
  simp only[kD] at b;split at b
  ·grind
  split at b
  ·grind
  rcases fV.1 b with b|b
  ·grind
  exact(NU b).imp id (hY _)
theorem Ir:∀{l:bm (Z×α)} {c:Z} {d:α},l.Pairwise (λa b=>a.1<b.1)->(kD l c d).Pairwise (λa b=>a.1<b.1)
 |[],c,d,_=>by simp[kD]
 |(a,u)::r,c,d,h=>by
  rw[mQ] at h;simp only[kD];split
  ·grind [ajR]
  rename_i g;split
  ·grind [ajR]
  rename_i f;rw[mQ];refine⟨λi e=>?_,Ir h.2⟩;rcases NU e with rfl|e
  ·omega
  grind
def WS {l:bm (Z×α)} {d:Z} (c:l.Pairwise (λa b=>a.1<b.1)):(jc l d).Pairwise (λa b=>a.1<b.1):=c.filter _
theorem Iq:∀{l:bm (Z×α)} {k:Z} {v:α},l.Pairwise (λa b=>a.1<b.1)->(kD l k v).Perm ((k,v)::jc l k)
 |[],k,v,_=>by simp[kD,jc]
 |(a,u)::r,k,v,h=>by
  rw[mQ] at h;simp only[kD];split
  ·rename_i d;have:jc ((a,u)::r) k=(a,u)::r:=by
    unfold jc;grind [ajq]
   rw[this]
  rename_i d;split
  ·rename_i c;subst c;have:jc ((k,u)::r) k=r:=by
    unfold jc;rw[nY,ax ac,mO];grind
   rw[this]
  rename_i c;have:jc ((a,u)::r) k=(a,u)::jc r k:=(by unfold jc;grind);rw[this];exact((Iq h.2).cons _).trans (.swap _ _ _)
end
section
variable {P:b0} {w:bD} {b:X} {e2:bU cn} {c:X}
theorem nH:iS w b=Y (e2,c)↔w.heap[b]?=Y (.map e2 c):=by grind [iS]
def qg (a:w.heap[b]?=Y (.map e2 c)):(setObj b (.map o i)).run P w=.ok () {w with heap:=w.heap.setIfInBounds b (.map o i)}:=by simp[setObj,Sem.run,a]
def run_getObj_map (a:w.heap[b]?=Y (.map e2 c)):(getObj b).run P w=.ok (.map e2 c) w:=by simp[getObj,Sem.run,a]
theorem MJ {j:cu} (b:Z):∀(e2:bm cn) (c:ahZ) (d:X),e2.map (·.key)=c.map (aie .i64)->b∉c->ajr (.int j) (.int .i64 b) e2 d=Y bo
 |[],_,_,_,_=>rfl
 |e::e2,[],_,a,_=>by cases a
 |e::e2,f::c,d,a,h=>by simp only[ie,hL] at a;have i:(b==f)=bq:=(by grind);simp only[ajr,a.1,alb,cf,i];exact MJ b e2 c (d+1) a.2 (λg=>h (hY _ g))
theorem MK {kd:cu} (b:Z):∀(e2:bm cn) (d:ahZ) (f:X),e2.map (·.key)=d.map (aie .i64)->b∈d->∃c e,d[c]?=Y b/\e2[c]?=Y e/\ajr (.int kd) (.int .i64 b) e2 f=Y (Y (f+c,e.val))
 |[],[],_,_,a=>by cases a
 |[],_::_,_,a,_=>by cases a
 |e::e2,[],_,a,_=>by cases a
 |e::e2,g::d,f,a,m=>by
  simp only[ie,hL] at a;by_cases h:b=g
  ·subst h;refine⟨0,e,bn,bn,?_⟩;simp_all [cf,aix,ajr,alb]
  have n:(b==g)=bq:=(by grind);obtain⟨c,i,j,k,l⟩:=MK b e2 d (f+1) a.2 ((fV.1 m).resolve_left h);refine⟨c+1,i,by simpa using j,by simpa using k,?_⟩;simp only[ajr,a.1,alb,cf,n];rw[l];grind
structure hk (M:eC->X->Prop) (w:bD) (t:ah) (b:X) (l:bm (Z×t.den)) (c:X) (e2:bU cn) (L:bm (Z×X×t.den)):Prop where
 o7:kq L l c
 h:w.heap[b]?=Y (.map e2 c)
 n:e2.size=L.length
 e:∀(i:X) (q:Z×X×t.den),L[i]?=Y q->∃ds:ahS,ds.length=t.size/\e2[i]?=Y (akj (.int .i64 q.1) (cX t ds) q.2.1)/\aR M w t ds q.2.2 []
variable {M:eC->X->Prop} {t:ah} {l:bm (Z×t.den)} {L:bm (Z×X×t.den)}
theorem hk.keys (f:hk M w t b l c e2 L):e2.toList.map (·.key)=(L.map (·.1)).map (aie .i64):=by
 apply hM;intro d;simp only[jg,Bb];rcases cO d L.length with a|a
 ·obtain⟨g,_,h,_⟩:=f.e d L[d] (ba a);grind
 rw[qz a,Array.getElem?_eq_none (by rw[f.n];exact a)];rfl
def kq.keys {α:Type} {L:bm (Z×X×α)} {l:bm (Z×α)} {c:X} (a:kq L l c):(L.map (·.1)).Perm (l.map (·.1)):=by have:=a.2.1.map (·.1);rwa[oJ] at this
def kq.nd {α:Type} {L:bm (Z×X×α)} {l:bm (Z×α)} {c:X} (a:kq L l c):(L.map (·.1)).Nodup:=a.keys.nodup_iff.2 (QK a.1)
def kq.mem {α:Type} {L:bm (Z×X×α)} {l:bm (Z×α)} {c:X} (b:kq L l c) {a:Z×X×α} (d:a∈L):gk l a.1=Y a.2.2:=
 (WU (QK b.1)).2 (b.2.1.mem_iff.1 (eY.2 ⟨a,d,bn⟩))
theorem kq.len {α:Type} {L:bm (Z×X×α)} {l:bm (Z×α)} {c:X} (a:kq L l c):L.length=l.length:=by have:=a.2.1.length_eq;grind
theorem JF {P:b0} {w:bD} (e:P.underlying a=Y (.int v)) {b:Z} {e2:bm cn} {c:bv (X×Value)} (d:ajr (.int v) (.int .i64 b) e2 0=Y c):(ajS a (.int .i64 b) e2).run P w=.ok c w:=by simp_all [bY,b8,b1,ajS]
def ox {P:b0} {w:bD} (c:P.underlying a=Y (.int v)) (b:bA) (e:X) (d:Z):(amf b (e+1) a (.int .i64 d)).run P w=.ok () w:=by simp[amf,bY,b8 c]
theorem hk.find (j:hk M w t b l c e2 L) (u:P.underlying a=Y (.int v)) (d:Z):(gk l d=bo/\(∀o∈L,o.1≠d)/\∀f,(ajS a (.int .i64 d) e2.toList).run P f=.ok bo f)\/∃h m i g,gk l d=Y i/\L[h]?=Y (d,m,i)/\g.length=t.size/\e2[h]?=Y ⟨.int .i64 d,cX t g,m⟩/\aR M w t g i []/\∀f,(ajS a (.int .i64 d) e2.toList).run P f=.ok (Y (h,cX t g)) f:=by
 by_cases k:d∈L.map (·.1)
 ·obtain⟨h,q,r,s,B⟩:=MK (kd:=v) d e2.toList _ 0 j.keys k;rw[jg] at r;obtain⟨⟨C,m,i⟩,n,rfl⟩:=fD.1 r;obtain⟨g,x,p,y⟩:=j.e h _ n;rw[Bb,p] at s;cases s;refine .inr ⟨h,m,i,g,j.o7.mem (i4 n),n,x,p,y,λf=>JF u ?_⟩;grind
 refine .inl ⟨?_,λo A q=>k (eY.2 ⟨o,A,q⟩),λf=>JF u (MJ d _ _ 0 j.keys k)⟩;cases z:gk l d with
 |none=>rfl
 |some i=>exact absurd (j.o7.keys.mem_iff.2 (eY.2 ⟨_,Ej z,bn⟩)) k
def hk.empty (M:eC->X->Prop) (t:ah) (a:w.heap[b]?=Y (.map #[] 0)):hk M w t b [] 0 #[] []:=
 ⟨⟨.nil,.refl _,.nil,ac⟩,a,bn,ac⟩
def vd {α:Type} (L:bm (Z×X×α)) (a:Z) (d:α) (c:X):bm (Z×X×α)×X:=
 if a∈L.map (·.1) then(L.map λb=>if b.1=a then(a,b.2.1,d) else b,c) else(L++[(a,c,d)],c+1)
theorem PE {α:Type} {c:Z} {g:α}:∀{b:bm (Z×α)},(b.map (·.1)).Nodup->c∈b.map (·.1)->(b.map λd=>if d.1=c then(c,g) else d).Perm ((c,g)::jc b c)
 |[],_,e=>by cases e
 |(a,u)::b,e,j=>by
  simp only[ie,ko] at e;simp only[ie];by_cases h:a=c
  ·subst h;rw[au bn];have i:(b.map λd=>if d.1=a then(a,g) else d)=b:=by
    conv=>rhs;rw[<-List.map_id b]
    refine ia λd k=>?_;grind
   have f:jc ((a,u)::b) a=b:=(by unfold jc;rw[nY,ax ac,mO];grind);rw[i,f]
  rw[ax h];have f:jc ((a,u)::b) c=(a,u)::jc b c:=(by simp_all [nY,au,jc]);rw[f];refine((PE e.2 ?_).cons _).trans (.swap _ _ _);grind
theorem kq.put {α:Type} {L:bm (Z×X×α)} {l:bm (Z×α)} {c:X} (e:kq L l c) (d:Z) (g:α):kq (vd L d g c).1 (kD l d g) (bif (gk l d).isSome then c else c+1)/\(vd L d g c).2=(bif (gk l d).isSome then c else c+1):=by
 have i:(gk l d).isSome=br (d∈L.map (·.1)):=by
  by_cases h:d∈L.map (·.1)
  ·obtain⟨a,f,rfl⟩:=eY.1 h;rw[e.mem f,ah3 h];rfl
  rw[aiy h];cases i:gk l d with
  |none=>rfl
  |some v=>exact absurd (e.keys.mem_iff.2 (eY.2 ⟨_,Ej i,bn⟩)) h
 rw[i];unfold vd;have n:((L.map λa=>(a.1,a.2.2)).filter λa=>br (a.1≠d)).Perm (jc l d):=e.2.1.filter _;by_cases h:d∈L.map (·.1)
 ·rw[au h,ah3 h];refine⟨⟨Ir e.1,?_,?_,?_⟩,bn⟩
  ·have aq:((L.map λa=>if a.1=d then(d,a.2.1,g) else a).map λa=>(a.1,a.2.2))=(L.map λa=>(a.1,a.2.2)).map λa=>if a.1=d then(d,g) else a:=by
    simp only[oJ];refine ia λa _=>?_;grind
   show((L.map λa=>if a.1=d then(d,a.2.1,g) else a).map λa=>(a.1,a.2.2)).Perm _;rw[aq];refine(PE ?_ ?_).trans ((n.cons _).trans (Iq e.1).symm)
   ·rw[oJ];exact e.nd
   grind
  ·have aq:((L.map λa=>if a.1=d then(d,a.2.1,g) else a).map λa=>a.2.1)=L.map λa=>a.2.1:=by
    grind [aii,List.map_map]
   show((L.map λa=>if a.1=d then(d,a.2.1,g) else a).map λa=>a.2.1).Nodup;rw[aq];exact e.2.2.1
  intro a f;obtain⟨p,o,rfl⟩:=eY.1 f;have:=e.2.2.2 p o;grind
 rw[ax h,aiy h];refine⟨⟨Ir e.1,?_,?_,?_⟩,bn⟩
 ·have j:jc l d=l:=by
   unfold jc;rw[mO];intro a f;simp only[aip];rintro rfl;exact h (e.keys.mem_iff.2 (eY.2 ⟨a,f,bn⟩))
  have:=Iq (k:=d) (v:=g) e.1;rw[j] at this;refine List.Perm.trans ?_ this.symm;show((L++[(d,c,g)]).map λa=>(a.1,a.2.2)).Perm _;rw[jh];exact List.perm_append_comm.trans ((e.2.1).cons _)
 ·show((L++[(d,c,g)]).map λa=>a.2.1).Nodup;rw[jh,jR];refine⟨e.2.2.1,ac,λq m b s r=>?_⟩;obtain⟨a,f,rfl⟩:=eY.1 m;have:=e.2.2.2 a f;grind
 intro a f;rcases hX.1 f with f|f
 ·have:=e.2.2.2 a f;grind
 grind
theorem MF {α:Type} {h:Z}:∀{b:bm α} (a:α->Z) {f:X} {d:α},(b.map a).Nodup->b[f]?=Y d->a d=h->b.eraseIdx f=b.filter λi=>br (a i≠h)
 |[],a,f,d,_,c,_=>by grind
 |x::b,a,0,d,e,c,g=>by simp only[qy,eR] at c;subst c;simp only[ie,ko] at e;rw[List.eraseIdx_cons_zero,nY,ax (by grind),mO.2];grind
 |x::b,a,f+1,d,e,c,g=>by simp only[vW] at c;simp only[ie,ko] at e;rw[List.eraseIdx_cons_succ,nY,au,MF a e.2 c g];grind
def kq.del {α:Type} {L:bm (Z×X×α)} {l:bm (Z×α)} {c:X} (b:kq L l c) (d:Z):kq (L.filter λa=>br (a.1≠d)) (jc l d) c:=by
 refine⟨WS b.1,?_,?_,λa e=>b.2.2.2 a (hq.1 e).1⟩
 ·have:=b.2.1.filter (λa=>br (a.1≠d));rw[List.filter_map] at this;exact this
 exact b.2.2.1.sublist (tL.map _)
def aR.Oe (a:hk M w t b l c e2 L):aR M w (.mp t) [.map (Y b)] (Y (l,c)) [b]:=⟨b,e2,L,bn,bn,a.o7,nH.2 a.h,a.n,a.e⟩
def aR.Od (a:aR M w (.mp t) g (Y (l,c)) k):∃b e2 L,g=[.map (Y b)]/\k=[b]/\hk M w t b l c e2 L:=by obtain⟨b,e2,L,d,e,f,h,i,j⟩:=a;exact⟨b,e2,L,d,e,f,nH.1 h,i,j⟩
def aR.aej {a:eC} (d:aR M w (.fx a t) g (Y (l,c)) k):∃b e2 L,g=[.map (Y b)]/\k=[]/\M a b/\hk M w t b l c e2 L:=by obtain⟨b,e2,L,e,f,h,n,i,j,m⟩:=d;exact⟨b,e2,L,e,f,n,h,nH.1 i,j,m⟩
def gQ (w:bD) (b:X) (e2:bU cn) (c:X):World:={w with heap:=w.heap.setIfInBounds b (.map e2 c)}
theorem oz (a:w.heap[b]?=Y (.map e2 c)):(gQ w b o i).heap[b]?=Y (.map o i):=by grind [Array.getElem?_eq_some_iff,gQ]
theorem AX {a:X} (c:i≠b):(gQ w b o a).heap[i]?=w.heap[i]?:=by grind [Array.getElem?_setIfInBounds_ne,gQ]
theorem Qx:(gQ w b o i).heap.size=w.heap.size:=by simp[gQ]
theorem acL {es':bU cn} {c':X} (d:w.heap[b]?=Y (.map e2 c)) (a:Addr):(gQ w b es' c').cell? a=w.cell? a:=by grind [al9,AX,oz,ai9]
theorem acM {es':bU cn} {c':X} (d:w.heap[b]?=Y (.map e2 c)) (a:Addr):(gQ w b es' c').frozen? a=w.frozen? a:=by grind [ama,AX,oz,aks]
def Ff {a:X} (c:i≠b):c5 w (gQ w b o a) i:=.of_heap (AX c)
theorem hk.update (f:hk M w t b l c e2 L) (I:P.underlying x=Y (.map a T)) (E:P.underlying a=Y (.int v)) (d:Z) {o:t.den} (ap:g.length=t.size) (ci:aR M w t g o []):∃u K,(aiN x (.map (Y b)) (.int .i64 d) (cX t g)).run P w=.ok () (gQ w b u (bif (gk l d).isSome then c else c+1))/\(∀{y:eC->X->Prop},(∀r d,M r d->y r d/\d≠b)->hk y (gQ w b u (bif (gk l d).isSome then c else c+1)) t b (kD l d o) (bif (gk l d).isSome then c else c+1) u K)/\kO w (gQ w b u (bif (gk l d).isSome then c else c+1)) b:=by
 have bl:∀{y:eC->X->Prop} {u:bU cn} {N:X},(∀r d,M r d->y r d/\d≠b)->∀{g:ahS} {o:t.den},aR M w t g o []->aR y (gQ w b u N) t g o []:=
  λz _ _ ce=>ce.mono (λr d C=>⟨(z r d C).1,Ff (z r d C).2⟩) ac
 obtain⟨q,cv⟩:=f.o7.put d o;rcases f.find (P:=P) E d with⟨D,G,H⟩|⟨B,dl,ds,co,D,G,H,ad,cs,am⟩
 ·rw[D] at q|-;have C:d∉L.map (·.1):=λc1=>(by grind);simp only[alc,bP] at q|-;have aq:(vd L d o c).1=L++[(d,c,o)]:=(by simp_all [ax,vd]);rw[aq] at q;refine⟨e2.push ⟨.int .i64 d,cX t g,c⟩,L++[(d,c,o)],?_,λz=>⟨q,oz f.h,by simp[f.n],λm k p=>?_⟩,?_⟩
  ·simp only[aiN,bY,b8 I,b1,run_getObj_map f.h,ox E,H];exact qg f.h
  ·rcases cO m L.length with F|F
   ·rw[qx F] at p;obtain⟨U,Q,R,S⟩:=f.e m k p;grind
   rw[pz F] at p;have a0:m-L.length=0:=(by grind);rw[a0] at p;simp only[qy,eR] at p;subst p;exact⟨g,ap,by rw[Array.getElem?_push,au (by rw[f.n];omega)],bl z ci⟩
  intro V O A;rw[nH.2 f.h] at A;cases A;refine⟨_,_,nH.2 (oz f.h),Nat.le_succ _,λm s av an=>?_⟩;grind
 rw[D] at q|-;have C:d∈L.map (·.1):=eY.2 ⟨_,i4 G,bn⟩;simp only[akt,bG] at q|-;have aq:(vd L d o c).1=L.map λk=>if k.1=d then(d,k.2.1,o) else k:=by simp_all [au,vd]
 rw[aq] at q;have c2:∀(m:X) (k:Z×X×t.den),L[m]?=Y k->k.1=d->m=B:=λm k p s=>(by have bs:=f.o7.nd;have a3:m<(L.map (·.1)).length:=(by grind);have:=aku a3 bs (i:=m) (j:=B);grind);refine⟨e2.modify B λs=>{s with key:=.int .i64 d,val:=cX t g},L.map λk=>if k.1=d then(d,k.2.1,o) else k,?_,λz=>⟨q,oz f.h,by simp[f.n],λm k p=>?_⟩,?_⟩
 ·have a4:(ajs (((e2[B]?).map (·.key)).getD (.int .i64 d)) (.int .i64 d)).run P w=.ok (.int .i64 d) w:=by
   rw[ad];simp[ajs,ald]
  simp only[aiN,bY,b8 I,b1,run_getObj_map f.h,ox E,am,a4];exact qg f.h
 ·rw[jg] at p;obtain⟨J,bx,rfl⟩:=fD.1 p;by_cases s:J.1=d
  ·grind
  rw[ax s];obtain⟨U,Q,R,S⟩:=f.e m J bx;grind
 intro V O A;rw[nH.2 f.h] at A;cases A;refine⟨_,_,nH.2 (oz f.h),bc _,λm s av an=>?_⟩;grind
theorem hk.delete (d:hk M w t b l c e2 L) (H:P.underlying x=Y (.map a T)) (u:P.underlying a=Y (.int v)) (f:Z) (av:bF) (O:bF):∃k N,(ale #[x,O] av #[.map (Y b),.int .i64 f]).run P w=.ok (.tuple #[]) (gQ w b k c)/\(∀{p:eC->X->Prop},(∀g f,M g f->p g f/\f≠b)->hk p (gQ w b k c) t b (jc l f) c k N)/\kO w (gQ w b k c) b:=by
 have a4:∀{p:eC->X->Prop} {k:bU cn} {Q:X},(∀g f,M g f->p g f/\f≠b)->∀{C:ahS} {K:t.den},aR M w t C K []->aR p (gQ w b k Q) t C K []:=
  λr _ _ ap=>ap.mono (λg f J=>⟨(r g f J).1,Ff (r g f J).2⟩) ac
 rcases d.find (P:=P) u f with⟨V,s,F⟩|⟨o,bs,bx,a0,V,s,F,G,a3,ad⟩
 ·have aq:jc l f=l:=by
   unfold jc;rw[mO];intro j bl;simp only[aip];grind [NT]
  refine⟨e2,L,?_,λr=>⟨by rw[aq];exact d.o7,oz d.h,d.n,λi j m=>?_⟩,?_⟩
  ·simp only[ale,bY,b8 H,b1,run_getObj_map d.h,ox u,F,alf,qy,vW];rw[qg d.h];rfl
  ·obtain⟨D,z,A,B⟩:=d.e i j m;grind
  intro U R q;rw[nH.2 d.h] at q;cases q;exact⟨_,_,nH.2 (oz d.h),bc _,λi E I _=>⟨i,E,I,bn,bn⟩⟩
 have S:L.eraseIdx o=L.filter λj=>br (j.1≠f):=MF (·.1) d.o7.nd s bn;refine⟨e2.eraseIdxIfInBounds o,L.eraseIdx o,?_,λr=>⟨by rw[S];exact d.o7.del f,oz d.h,?_,λi j m=>?_⟩,?_⟩
 ·simp only[ale,bY,b8 H,b1,run_getObj_map d.h,ox u,ad,alf,qy,vW];rw[qg d.h];rfl
 ·have y:o<e2.size:=(rR.1 G).1;have am:o<L.length:=(hF.1 s).1;rw[amg,aja y,Array.size_eraseIdx,List.length_eraseIdx,au am,d.n]
 ·have y:o<e2.size:=(rR.1 G).1;rw[List.getElem?_eraseIdx] at m;rw[amg,aja y];split at m
  ·rename_i an;obtain⟨D,z,A,B⟩:=d.e i j m;grind
  rename_i an;obtain⟨D,z,A,B⟩:=d.e (i+1) j m;grind
 intro U R q;rw[nH.2 d.h] at q;cases q;refine⟨_,_,nH.2 (oz d.h),bc _,λi E I _=>?_⟩;grind
end
end
section
section
variable {E:fB} {C:eX} {st:aO} {a:Act} {w:bD} {I:X->Prop} {rt:X->ahS} {fp:X->ahY} {o:bR} {Q:ak->bm (X×aF)->Prop}
def k3 (tt:bm (bF×ah)) (b:bF):bv ah:=match ar tt b with|some (.mp a)=>Y a|some (.fx _ a)=>Y a|_=>bo
theorem k3.ok {c:bF} {f:ah} (d:k3 E.tt c=Y f):∃a b,E.P.underlying c=Y (.map a b)/\E.P.underlying a=Y (.int .i64)/\fj E.P f b:=by
 unfold k3 at d;split at d
 ·rename_i k e;cases d;obtain⟨j,a,b,_,_,_,_,g,h,i⟩:=E.ok c _ e;grind
 ·rename_i l k e;cases d;obtain⟨j,a,b,_,_,_,_,g,h,i⟩:=E.ok c _ e;grind
 grind
def xE (tt:bm (bF×ah)) (d:bm (X×ah)) (e:bm (X×aF)) (a:X) (c:bF):h6:=
 match k3 tt c,ar d a,ar e a with
 |some f,Y (.mp b),bo=>bif a7 f b then .e4 (.ref a []) [(a,⟨.mp b,Y ([],0)⟩)] else .bad
 |_,_,_=>.bad
theorem Xg (f:cM C st a.tmps w I rt fp) (k:o.op=.makeMap x bo) (c:(xE E.tt l st.h b x).K Q):Yields E C st a w I rt fp o Q:=by
 unfold xE at c;split at c
 case h_2=>exact c.elim
 rename_i m d p q g;cases e:a7 m d with
 |false=>rw[e] at c;exact c.elim
 |true=>
 rw[e] at c;have i:(w.alloc (.map #[] 0)).heap[w.heap.size]?=Y (.map #[] 0):=(by show(w.heap.push _)[w.heap.size]?=_;grind);refine⟨.map (Y w.heap.size),w.alloc (.map #[] 0),I,λ_=>[.map (Y w.heap.size)],λ_=>[w.heap.size],.ref b [],[(b,⟨.mp d,Y ([],0)⟩)],?_,.alloc w _,λ_ c=>c,λ_ c=>.inl c,.one g (aR.Oe (hk.empty _ _ i)) ac (λn e=>?_),?_,c⟩
 ·simp[bL,k,Instr.makeMap,newObj,Sem.run]
 ·simp only[gd] at e;subst e;exact⟨bc _,ac,λc=>by have:=f.ib _ (.inl c);omega⟩
 have j:ar ([(b,(⟨.mp d,Y ([],0)⟩:aF))]++st.h) b=Y ⟨.mp d,Y ([],0)⟩:=(by rw[yr,dh,au bn]);refine .ref (t:=⟨.mp d,Y ([],0)⟩) (τ':=.mp d) (loc:=bo) (cs:=[.map (Y w.heap.size)]) j ?_;have:fi [(b,(⟨.mp d,Y ([],0)⟩:aF))] (λ_=>[ajt (Y w.heap.size)]) rt b=[.map (Y w.heap.size)]:=(by simp[fi,dh]);grind [aX.here]
def Eh (a:ah) (c:bv (bm (Z×a.den)×X)) (d:a.den) (b:Z):bA->ak
 |true=>.fe [.val a ((mB c b).getD d),.val .bool (mB c b).isSome]
 |false=>.val a ((mB c b).getD d)
def u5 (tt:bm (bF×ah)) (j:bm (X×aF)) (i:bF) (k c:ak) (f:bA):h6:=
 match k3 tt i,c with
 |some h,.val (.int .i64) c=>match k with
  |.val (.fx l a) b=>match mf a with
   |some d=>bif a7 h a then .e4 (Eh a b d c f) [] else .bad
   |none=>.bad
  |.ref id g=>match ar j id with
   |some e=>match fm e.1 g with
    |some (.mp a)=>match mf a with
     |some d=>bif a7 h a then .part (bv (bm (Z×a.den)×X)) (λb=>eN e.1 e.2 g (.mp a) b) (λb=>(Eh a b d c f,[])) else .bad
     |none=>.bad
    |_=>.bad
   |none=>.bad
  |_=>.bad
 |_,_=>.bad
theorem NN {k:bF} (r:E.P.underlying k=Y (.map x T)) (f:E.P.underlying x=Y (.int .i64)) (M:fj E.P d T) {H:bM} {e:bA} (Q:o.op=.lookup k c H e) {n:Z} (O:a.eval H=.int .i64 n) {u:d.den} (S:mf d=Y u) {m:bv (bm (Z×d.den)×X)} (g:(m=bo/\a.eval c=.map bo)\/∃l s p z y,m=Y (s,p)/\a.eval c=.map (Y l)/\hk (bb I C.B) w d l s p z y):∃t,(bL a.eval o).run E.P w=.ok (.value t) w/\∀A:bm (X×aF),cN (bb I C.B) w A rt fp (Eh d m u n e) t:=by
 obtain⟨G,v,aw,V,ad,a3⟩:=vK M S;have F:(aih T).run E.P w=.ok v w:=(by simp[aih,aiw,aw,V]);have U:∃i,aR (bb I C.B) w d i ((mB m n).getD u) []/\(akv k (a.eval c) (.int .i64 n) e).run E.P w=.ok (if e then .tuple #[cX d i,.bool (mB m n).isSome] else cX d i) w:=by
  rcases g with⟨rfl,g⟩|⟨l,s,p,z,y,rfl,g,q⟩
  ·refine⟨v.cells.toList,by grind [mB],?_⟩;rw[g];have N:(ajS x (.int .i64 n) []).run E.P w=.ok bo w:=JF f bn;simp only[akv,bY,b8 r,b1,cw,ox f,N,F];rw[<-ad];cases e<;>rfl
  rw[g];rcases q.find (P:=E.P) f n with⟨b,_,K⟩|⟨a0,a4,bl,J,b,_,an,ap,av,L⟩
  ·refine⟨v.cells.toList,by grind [mB],?_⟩;simp only[akv,bY,b8 r,b1,cw,run_getObj_map q.h,ox f,K,F];grind [alc,mB]
  refine⟨J,by grind [mB],?_⟩;simp only[akv,bY,b8 r,b1,cw,run_getObj_map q.h,ox f,L];grind [akt,mB]
 obtain⟨i,D,R⟩:=U;refine⟨_,by simp only[bL,Q,O,bY,R];rfl,λA=>?_⟩;cases e with
 |false=>exact .val D
 |true=>
  refine .fe ac (λG am t b j=>?_)
  match G with
  |0=>simp at b j;subst b;subst j;exact .val D
  |1=>simp at b j;subst b;subst j;exact .bool _
  |n+2=>grind
theorem aR.IB {b:bv (bm (Z×d.den)×X)} (f:aR e w (.mp d) g b k):(b=bo/\g=[.map bo]/\k=[])\/∃a h c j i,b=Y (h,c)/\g=[.map (Y a)]/\k=[a]/\hk e w d a h c j i:=by
 cases b with
 |none=>exact .inl ⟨bn,f.2,f.1⟩
 |some l=>
  obtain⟨h,c⟩:=l;obtain⟨a,j,i,m,n,o⟩:=f.Od;grind
theorem aR.Rq {l:eC} {a:bv (bm (Z×d.den)×X)} (j:aR e w (.fx l d) g a k):(a=bo/\g=[.map bo])\/∃b f c i h,a=Y (f,c)/\g=[.map (Y b)]/\hk e w d b f c i h:=by
 cases a with
 |none=>exact .inl ⟨bn,j.2⟩
 |some m=>
  obtain⟨f,c⟩:=m;obtain⟨b,i,h,n,_,_,o⟩:=j.aej;grind
theorem WM (s:cM C st a.tmps w I rt fp) {j:bM} {J:bA} (F:o.op=.lookup x c j J) (b:(u5 E.tt st.h x (aT st.g c) (aT st.g j) J).K Q):Yields E C st a w I rt fp o Q:=by
 have f:=s.aT c;have t:=s.aT j;unfold u5 at b;split at b
 case h_2=>exact b.elim
 rename_i O bx R P;obtain⟨a0,a3,L,M,N⟩:=k3.ok R;rw[P] at t;generalize D:a.eval j=bs at t;cases t with|val ad=>
 obtain⟨_,rfl⟩:=ad;split at b
 ·rename_i av B y r;split at b
  case h_2=>exact b.elim
  rename_i ap u;cases e:a7 O B with
  |false=>rw[e] at b;exact b.elim
  |true=>
  rw[e] at b;rw[r] at f;generalize i:a.eval c=an at f;cases f with|val V=>
  obtain⟨am,z,A⟩:=NN (rt:=rt) (fp:=fp) (I:=I) (C:=C) (E:=E) (w:=w) (a:=a) (m:=y) L M (N.lay e) F D u (by
   rcases V.Rq with⟨aq,d⟩|⟨l,v,n,q,k,aq,d,p⟩
   ·exact .inl ⟨aq,by rw[i,d];rfl⟩
   exact .inr ⟨l,v,n,q,k,aq,by rw[i,d];rfl,p⟩)
  exact .pure z (A _) b
 ·rename_i id ce r;split at b
  case h_2=>exact b.elim
  rename_i ci G;split at b
  case h_2=>exact b.elim
  rename_i B bl;split at b
  case h_2=>exact b.elim
  rename_i ap u;cases e:a7 O B with
  |false=>rw[e] at b;exact b.elim
  |true=>
  rw[e] at b;obtain⟨y,S,b⟩:=b;rw[r] at f;generalize i:a.eval c=an at f;cases f with|ref H T=>
  rw[G] at H;cases H;obtain⟨rfl,a4,U,_⟩:=s.k0 G S T;obtain⟨am,z,A⟩:=NN (rt:=rt) (fp:=fp) (I:=I) (C:=C) (E:=E) (w:=w) (a:=a) (m:=y) L M (N.lay e) F D u (by
   rcases U.IB with⟨aq,d,_⟩|⟨l,v,n,q,k,aq,d,_,p⟩
   ·exact .inl ⟨aq,by rw[i,d];rfl⟩
   exact .inr ⟨l,v,n,q,k,aq,by rw[i,d];rfl,p⟩)
  exact .pure z (A _) b
 exact b.elim
def vb (tt:bm (bF×ah)) (f:bm (X×aF)) (e:bF) (g:ak):h6:=
 match k3 tt e with
 |none=>.bad
 |some _=>match g with
  |.val (.fx _ b) a=>.e4 (.val (.int .i64) (xB (α:=b.den) a)) []
  |.ref id d=>match ar f id with
   |some c=>match fm c.1 d with
    |some (.mp b)=>.part (bv (bm (Z×b.den)×X)) (λa=>eN c.1 c.2 d (.mp b) a) (λa=>(.val (.int .i64) (xB a),[]))
    |_=>.bad
   |none=>.bad
  |_=>.bad
def Oa {q:bF} (l:E.P.underlying x=Y (.map T q)) (p:o.op=.call {callee:=.builtin .len,args:=#[c],argTypes:=#[x]}) {m:bv (bm (Z×d.den)×X)} (b:(m=bo/\a.eval c=.map bo)\/∃f e g i k,m=Y (e,g)/\a.eval c=.map (Y f)/\hk (bb I C.B) w d f e g i k):(bL a.eval o).run E.P w=.ok (.value (.int .i64 (xB m))) w:=by
 rcases b with⟨rfl,b⟩|⟨f,e,g,i,k,rfl,b,j⟩
 ·simp[bL,p,aiG,invoke,aiW,b,ak6,b8 l,goInt,xB]
 have r:i.size=e.length:=(by rw[j.n,j.o7.len]);simp only[bL,p,aiG,invoke,aiW,bY,cw,b1,akw,ie,ajb,b,ak6,alf,qy,b8 l,run_getObj_map j.h,goInt,xB,r]
theorem Xi (s:cM C st a.tmps w I rt fp) (t:o.op=.call {callee:=.builtin .len,args:=#[c],argTypes:=#[x]}) (b:(vb E.tt st.h x (aT st.g c)).K Q):Yields E C st a w I rt fp o Q:=by
 have e:=s.aT c;unfold vb at b;split at b
 ·exact b.elim
 rename_i S z;obtain⟨J,L,y,P,R⟩:=k3.ok z;generalize f:a.eval c=T at e;split at b
 ·rename_i H G r p;rw[p] at e;cases e with|val F=>
  refine .pure (Oa (I:=I) (C:=C) (m:=r) y t ?_) (.int _ _) b;rcases F.Rq with⟨aq,d⟩|⟨j,q,k,n,i,aq,d,l⟩
  ·exact .inl ⟨aq,by rw[f,d];rfl⟩
  exact .inr ⟨j,q,k,n,i,aq,by rw[f,d];rfl,l⟩
 ·rename_i id O p;split at b
  case h_2=>exact b.elim
  rename_i U u;split at b
  case h_2=>exact b.elim
  rename_i G N;obtain⟨r,A,b⟩:=b;rw[p] at e;cases e with|ref v B=>
  rw[u] at v;cases v;obtain⟨rfl,M,D,_⟩:=s.k0 u A B;refine .pure (Oa (I:=I) (C:=C) (m:=r) y t ?_) (.int _ _) b;rcases D.IB with⟨aq,d,_⟩|⟨j,q,k,n,i,aq,d,_,l⟩
  ·exact .inl ⟨aq,by rw[f,d];rfl⟩
  exact .inr ⟨j,q,k,n,i,aq,by rw[f,d];rfl,l⟩
 exact b.elim
end
end
section
section
variable {E:fB} {C:eX} {st:aO} {a:Act} {w:bD} {I:X->Prop} {rt:X->ahS} {fp:X->ahY} {o:bR} {Q:ak->bm (X×aF)->Prop}
def ER (b c d:ak):h6:=
 match b with
 |.val .bool b=>.part bA (λa=>b=a) (λa=>(match a with|true=>c|false=>d,[]))
 |_=>.bad
theorem aba (e:cM C st a.tmps w I rt fp) {d:bM} (m:o.op=.pick c h d) (b:(ER (aT st.g c) (aT st.g h) (aT st.g d)).K Q):Yields E C st a w I rt fp o Q:=by
 have f:=e.aT c;unfold ER at b;split at b
 case h_2=>exact b.elim
 rename_i i j;obtain⟨i,rfl,b⟩:=b;rw[j] at f;generalize n:a.eval c=l at f;cases f with|val k=>
 obtain⟨_,rfl⟩:=k;cases i
 ·exact .pure (v:=a.eval d) (by simp_all [bL,cX,asBool]) (e.aT d) b
 exact .pure (v:=a.eval h) (by simp_all [bL,cX,asBool]) (e.aT h) b
def Kb (e:UnOp) (c:ak):h6:=
 match e,c with
 |.neg,.val (.int a) c=>.part Z (λb=>a.wrap (0-c)=b) (λb=>(.val (.int a) b,[]))
 |.xor,.val (.int a) c=>.part Z (λb=>a.wrap (cg a.bits (if a.signed then-1 else a.max)^^^cg a.bits c).toNat=b) (λb=>(.val (.int a) b,[]))
 |.not,.val .bool d=>.e4 (.val .bool (!d)) []
 |_,_=>.bad
theorem adQ (j:cM C st a.tmps w I rt fp) {i:UnOp} (p:o.op=.unOp i x c) (b:(Kb i (aT st.g c)).K Q):Yields E C st a w I rt fp o Q:=by
 have d:=j.aT c;unfold Kb at b;generalize q:a.eval c=m at d;split at b
 ·rename_i f k e;obtain⟨l,rfl,b⟩:=b;rw[e] at d;cases d with|val h=>
  obtain⟨_,rfl⟩:=h;exact .pure (v:=.int f _) (by simp_all [bL,cX,alg,Op.intArith]) (.int f _) b
 ·rename_i f k e;obtain⟨l,rfl,b⟩:=b;rw[e] at d;cases d with|val h=>
  obtain⟨_,rfl⟩:=h;exact .pure (v:=.int f _) (by simp_all [bL,cX,alg,Op.intBits]) (.int f _) b
 ·rename_i n e;rw[e] at d;cases d with|val h=>
  obtain⟨_,rfl⟩:=h;exact .pure (v:=.bool _) (by simp_all [bL,cX,alg]) (.bool _) b
 exact b.elim
def BO (tt:bm (bF×ah)) (e d:bF) (a:ak):h6:=
 match ar tt e,ar tt d,a with
 |some (.int _),Y (.int c),.val (.int _) a=>.part Z (λb=>c.wrap a=b) (λb=>(.val (.int c) b,[]))
 |_,_,_=>.bad
theorem TQ (j:cM C st a.tmps w I rt fp) (m:o.op=.convert T x c) (b:(BO E.tt T x (aT st.g c)).K Q):Yields E C st a w I rt fp o Q:=by
 have d:=j.aT c;unfold BO at b;split at b
 case h_2=>exact b.elim
 rename_i p e q r h i f;obtain⟨u,rfl,b⟩:=b;generalize n:a.eval c=l at d;rw[f] at d;cases d with|val k=>
 obtain⟨_,rfl⟩:=k;obtain⟨_,_,_,_,_,s⟩:=E.ok T _ h;obtain⟨_,_,_,_,_,t⟩:=E.ok x _ i;exact .pure (v:=.int e _) (by simp_all [b8,bL,cX,convert,Conv.intToInt]) (.int e _) b
def qk (c:ByteArray) (a:Z):ahT:=if 0<=a then(c[a.toNat]?).map λb=>(b.toNat:Z) else bo
def Ed:ByteArray:=⟨#[0,1,2,2,3,3,3,3,4,4,4,4,4,4,4,4,5,5,5,5,5,5,5,5,5,5,5,5,5,5,5,5,6,6,6,6,6,6,6,6,6,6,6,6,6,6,6,6,6,6,6,6,6,6,6,6,6,6,6,6,6,6,6,6,7,7,7,7,7,7,7,7,7,7,7,7,7,7,7,7,7,7,7,7,7,7,7,7,7,7,7,7,7,7,7,7,7,7,7,7,7,7,7,7,7,7,7,7,7,7,7,7,7,7,7,7,7,7,7,7,7,7,7,7,7,7,7,7,8,8,8,8,8,8,8,8,8,8,8,8,8,8,8,8,8,8,8,8,8,8,8,8,8,8,8,8,8,8,8,8,8,8,8,8,8,8,8,8,8,8,8,8,8,8,8,8,8,8,8,8,8,8,8,8,8,8,8,8,8,8,8,8,8,8,8,8,8,8,8,8,8,8,8,8,8,8,8,8,8,8,8,8,8,8,8,8,8,8,8,8,8,8,8,8,8,8,8,8,8,8,8,8,8,8,8,8,8,8,8,8,8,8,8,8,8,8,8,8,8,8,8,8,8,8,8,8]⟩
def Fk (tt:bm (bF×ah)) (d:bF) (f e:ak):h6:=
 match ar tt d,f,e with
 |some .str,.dg (.string c),.val (.int _) b=>.part Z (λa=>qk c b=Y a) (λa=>(.val (.int .u8) a,[]))
 |some .str,.val .str c,.val (.int _) b=>.part Z (λa=>qk c b=Y a) (λa=>(.val (.int .u8) a,[]))
 |_,_,_=>.bad
theorem adi (y:cM C st a.tmps w I rt fp) (H:o.op=.index x h c) (l:(Fk E.tt x (aT st.g h) (aT st.g c)).K Q):Yields E C st a w I rt fp o Q:=by
 have j:=y.aT h;have i:=y.aT c;have u:∀(f:ByteArray) (k:cu) (e b:Z),ar E.tt x=Y .str->a.eval h=.string f->a.eval c=.int k e->qk f e=Y b->Q (.val (.int .u8) b) []->Yields E C st a w I rt fp o Q:=by
  intro f k e b m q p d n;obtain⟨_,_,_,_,_,z⟩:=E.ok x _ m;refine .pure (v:=.int .u8 b) ?_ (.int .u8 b) n;unfold qk at d;split at d
  case isFalse=>cases d
  rename_i F;obtain⟨D,G,rfl⟩:=fD.1 d;simp_all [b8,bL,Instr.index,ai7]
 unfold Fk at l;split at l
 ·rename_i f k e m q p;obtain⟨b,d,n⟩:=l;rw[q] at j;rw[p] at i;generalize s:a.eval h=A at j;generalize r:a.eval c=z at i;cases j;cases i with|val t=>
  obtain⟨_,rfl⟩:=t;exact u f k e b m s r d n
 ·rename_i f k e m q p;obtain⟨b,d,n⟩:=l;rw[q] at j;rw[p] at i;generalize s:a.eval h=A at j;generalize r:a.eval c=z at i;cases j with|val B=>
  obtain⟨_,rfl⟩:=B;cases i with|val t=>
  obtain⟨_,rfl⟩:=t;exact u f k e b m s r d n
 exact l.elim
def DI (d:ak) (c:X):h6:=
 match d with
 |.fe b=>match b[c]? with
  |some a=>.e4 a []
  |none=>.bad
 |_=>.bad
theorem UQ (j:cM C st a.tmps w I rt fp) (q:o.op=.extract c b) (d:(DI (aT st.g c) b).K Q):Yields E C st a w I rt fp o Q:=by
 have f:=j.aT c;unfold DI at d;generalize r:a.eval c=n at f;split at d
 case h_2=>exact d.elim
 rename_i s i;split at d
 case h_2=>exact d.elim
 rename_i h l;rw[i] at f;cases f with|fe p k=>
 rename_i e;have m:b<e.size:=(by grind);have:e[b]?=Y e[b]:=Ba m;exact .pure (v:=e[b]) (by simp_all [bL,Instr.extract]) (k b h _ l this) d
def xF (c:bA) (a:ak):bm ak->h6
 |[]=>.e4 a []
 |y::d=>match a,y with
  |.val (.int b) a,.val (.int e) y=>if b=e then(match c with|true=>xF c (.val (.int b) (if y>a then y else a)) d|false=>xF c (.val (.int b) (if y<a then y else a)) d) else .bad
  |_,_=>.bad
def Er (j:cM C st a.tmps w I rt fp) (m:bA):∀(e:bm bM) (i:ak) (f:Value),cN (bb I C.B) w st.h rt fp i f->(xF m i (e.map (aT st.g))).K Q->∃d c,((e.map a.eval).foldlM (match m with|true=>Builtin.max2|false=>Builtin.min2) f).run E.P w=.ok d w/\cN (bb I C.B) w st.h rt fp c d/\Q c []
 |[],i,f,k,b=>⟨f,i,bn,k,b⟩
 |y::e,i,f,k,b=>by
  have l:=j.aT y;simp only[ie,xF] at b;generalize p:a.eval y=A at l;split at b
  case h_2=>exact b.elim
  rename_i q x v z r;split at b
  case isFalse=>exact b.elim
  rename_i s;subst s;rw[r] at l;cases k with|val t=>cases l with|val u=>
  obtain⟨_,rfl⟩:=t;obtain⟨_,rfl⟩:=u;cases m
  ·obtain⟨d,c,aw,n,o⟩:=Er j bq e _ _ (.int q _) b;refine⟨d,c,?_,n,o⟩;simp only[ie,amh,p,bY];exact aw
  obtain⟨d,c,aw,n,o⟩:=Er j bp e _ _ (.int q _) b;refine⟨d,c,?_,n,o⟩;simp only[ie,amh,p,bY];exact aw
def H1:ak->bA
 |.val _ _|.dg _|.eA _ _=>bp
 |_=>bq
def g2 (tt:bm (bF×ah)) (i:bm (X×ah)) (d:bm (X×aF)) (b:bM->ak) (g:X) (h:Op):h6:=
 match h with
 |.move a=>.e4 (b a) []
 |.assign a=>bif H1 (b a) then .e4 (b a) [] else .bad
 |.pick f a n=>ER (b f) (b a) (b n)
 |.alloc c=>wi tt i d g c
 |.box c a=>yK tt d g c (b a)
 |.build c l=>yJ tt b c l.toList
 |.buildSlice c e l=>ww tt i d b g c e l.toList
 |.load c a=>u4 tt d c (b a)
 |.nilCheck a=>ve d (b a)
 |.binOp h c a n _=>match b a,b n with
  |.val .bool x,.val .bool y=>match ar tt c with
   |some .bool=>Gm h (.val .bool x) (.val .bool y)
   |_=>.bad
  |.val (.int k) v,.val (.int s) e=>l1 h k v s e
  |_,_=>.bad
 |.unOp h _ a=>Kb h (b a)
 |.convert z g a=>BO tt z g (b a)
 |.makeSlice c t f=>u7 tt i d g c (b t) (b f)
 |.slice c a u r bo=>vy tt d c (b a) (u.map b) (r.map b)
 |.fieldAddr c a e=>uU tt d c (b a) e
 |.field c a e=>xc tt d c (b a) e
 |.indexAddr c a j=>u0 tt d c (b a) (b j)
 |.index c a j=>Fk tt c (b a) (b j)
 |.extract a e=>DI (b a) e
 |.call f=>match f.callee,f.args.toList,f.argTypes.toList with
  |.builtin .len,[a],[c]=>match gX tt c with
   |some _=>u3 tt d c (b a)
   |none=>vb tt d c (b a)
  |.builtin .max,a::m,_=>xF bp (b a) (m.map b)
  |.builtin .min,a::m,_=>xF bq (b a) (m.map b)
  |_,_,_=>.bad
 |.makeMap c bo=>xE tt i d g c
 |.lookup c a k w=>u5 tt d c (b a) (b k) w
 |.makeFunc (.func p) q o=>bif q.isEmpty then .e4 (.eA p (o.toList.map b)) [] else .bad
 |_=>.bad
theorem UB (f:cM C st a.tmps w I rt fp) (c:(g2 E.tt l st.h (aT st.g) b o.op).K Q):Yields E C st a w I rt fp o Q:=by
 unfold g2 at c;split at c
 ·rename_i d e;exact .pure (v:=a.eval d) (by simp[bL,e]) (f.aT d) c
 ·rename_i d e;cases z:H1 (aT st.g d) with
  |false=>rw[z] at c;exact c.elim
  |true=>rw[z] at c;exact .pure (v:=a.eval d) (by simp[bL,e]) (f.aT d) c
 ·grind [aba]
 ·grind [SD]
 ·grind [Te]
 ·grind [Tb]
 ·grind [Ti]
 ·grind [WJ]
 ·grind [Xw]
 ·rename_i am k d r an e;split at c
  ·rename_i L M s t;split at c
   ·rename_i J;refine Lo f e (λ_ _ _ _=>?_) (by grind);exact(E.ok k _ J).choose_spec.2.2.2.2
   exact c.elim
  ·rename_i s t;refine Lo f e (λL M _ T=>?_) (by rw[s,t];exact c);grind
  exact c.elim
 ·grind [adQ]
 ·grind [TQ]
 ·grind [WY]
 ·grind [acW]
 ·grind [U7]
 ·grind [U9]
 ·grind [VS]
 ·grind [adi]
 ·grind [UQ]
 ·rename_i F e;obtain⟨P,m,B⟩:=F;simp only at c;split at c
  ·rename_i d k aq R;have j:m=#[d]:=(by grind);have S:B=#[k]:=(by grind);grind [Xi,WC]
  ·rename_i d i aq;have j:m=(d::i).toArray:=(by grind);obtain⟨q,D,aw,n,p⟩:=Er (E:=E) f bp i _ _ (f.aT d) c;refine .pure (v:=q) ?_ n p;simp only[bL,e,aiG,invoke,aiW,bY,cw,b1,j,Builtin.max_];simp_all
  ·rename_i d i aq;have j:m=(d::i).toArray:=(by grind);obtain⟨q,D,aw,n,p⟩:=Er (E:=E) f bq i _ _ (f.aT d) c;refine .pure (v:=q) ?_ n p;simp only[bL,e,aiG,invoke,aiW,bY,cw,b1,j,Builtin.min_];simp_all
  exact c.elim
 ·grind [Xg]
 ·grind [WM]
 ·rename_i H u G e;cases A:u.isEmpty with
  |false=>rw[A] at c;exact c.elim
  |true=>
   rw[A] at c;obtain rfl:u=#[]:=(by grind);refine .pure (v:=.func (.func H) #[] (G.map a.eval)) (by simp[bL,e,Instr.makeFunc]) (.eA ac (λad d O x y=>?_)) c;rw[jg] at x;rw[Array.getElem?_map] at y;obtain⟨r,U,rfl⟩:=fD.1 x;obtain⟨N,V,rfl⟩:=fD.1 y;obtain rfl:r=N:=(by grind);exact f.aT r
 exact c.elim
end
end
def eP (b:X) (a:ahY):bA:=a.any λc=>bH c b
theorem ha:eP b k=bp↔b∈k:=by grind [ajT,aiK,ami,eP]
def ak.fo (a:ahY) (b:ak):bA:=b.ids.any λc=>eP c a
def vx:bm aZ->bv (bm aZ)
 |.unst::a=>(vx a).map λb=>.unst::b
 |.fst::_=>Y [.snd]
 |.snd::_=>Y [.fst]
 |_=>bo
def rJ:bm aZ->bm aZ->bv (bm aZ)
 |p,[]=>vx p
 |.idx _::p,.idx _::a=>rJ p a
 |.deref::p,.deref::a=>rJ p a
 |.unst::p,.unst::a=>rJ p a
 |.fst::p,.fst::a=>rJ p a
 |.snd::p,.snd::a=>rJ p a
 |_,_=>bo
def H4 (a b:bm aZ):bA:=g8 a b||(rJ a b).isSome
def QG:∀{p b:bm aZ},vx p=Y b->g8 p b=bp
 |.unst::p,b,a=>by obtain⟨d,c,rfl⟩:=fD.1 a;exact QG (p:=p) c
 |.fst::_,_,a=>by cases a;rfl
 |.snd::_,_,a=>by cases a;rfl
 |[],_,a=>by cases a
 |.idx _::_,_,a=>by cases a
 |.deref::_,_,a=>by cases a
def QF:∀{q p b:bm aZ},rJ p q=Y b->g8 p (q++b)=bp
 |[],p,b,a=>by have c:vx p=Y b:=(by cases p<;>exact a);exact QG c
 |s::q,p,b,a=>by
  cases p with
  |nil=>cases s<;>cases a
  |cons d p=>cases s<;>cases d<;>first|(cases a;done)|exact QF (q:=q) (p:=p) a
theorem QH:∀{p e:bm aZ} {τ h:ah},fm τ p=Y h->vx p=Y e->∃(o:ah) (m:X),∀(i:bD) (c:Loc) (g:ahS),∃k,aX i τ c g e o (c.map λd=>(d.1,d.2+m)) k
 |.unst::p,e,τ,h,b,a=>by
  obtain⟨q,l,rfl⟩:=fD.1 a;cases τ with
  |st n=>exact QH (p:=p) (τ:=n) b l
  |_=>cases b
 |.fst::p,e,τ,h,b,a=>by
  cases a;cases τ with
  |pr f j=>exact⟨j,f.size,λi c g=>⟨_,aX.here⟩⟩
  |_=>cases b
 |.snd::p,e,τ,h,b,a=>by
  cases a;cases τ with
  |pr f j=>
   refine⟨f,0,λi c g=>⟨g.take f.size,?_⟩⟩;have:(c.map λd=>(d.1,d.2+0))=c:=(by simp_all);rw[this];exact aX.here
  |_=>cases b
 |[],_,_,_,_,a=>by cases a
 |.idx _::_,_,_,_,_,a=>by cases a
 |.deref::_,_,_,_,_,a=>by cases a
theorem x0 {n:bD}:∀{q p d:bm aZ} {e f:ah} {j:Loc} {i:ahS} {g:ah} {k:Loc} {h:ahS},fm e p=Y f->rJ p q=Y d->aX n e j i q g k h->∃l,fm g l=Y f/\vx l=Y d
 |[],p,d,e,f,j,i,g,k,h,c,b,a=>by obtain⟨rfl,_,_⟩:=aX.gw.1 a;have o:vx p=Y d:=(by cases p<;>exact b);grind
 |s::q,p,d,e,f,j,i,g,k,h,c,b,a=>by
  cases p with
  |nil=>cases s<;>cases b
  |cons m p=>
   cases e<;>cases s<;>simp only[aX] at a<;>cases m<;>first|(cases b;done)|skip
   case osl.idx.idx=>obtain⟨_,_,_,_,_,_,_,_,_,a⟩:=a;exact x0 (q:=q) (p:=p) c b a
   case optr.deref.deref=>obtain⟨_,_,_,_,_,_,a⟩:=a;exact x0 (q:=q) (p:=p) c b a
   case st.unst.unst=>exact x0 (q:=q) (p:=p) c b a
   case pr.fst.fst=>exact x0 (q:=q) (p:=p) c b a
   case pr.snd.snd=>exact x0 (q:=q) (p:=p) c b a
def aX.split {u:bD}:∀{q j:bm aZ} {d k:ah} {g i:Loc} {f h:ahS},aX u d g f (q++j) k i h->∃e c b,aX u d g f q e c b/\aX u e c b j k i h
 |[],j,d,k,g,i,f,h,a=>⟨d,g,f,aX.here,a⟩
 |s::q,j,d,k,g,i,f,h,a=>by
  rw[nW] at a;cases d<;>cases s<;>simp only[aX] at a
  case osl.idx=>
   obtain⟨l,t,x,v,m,aq,n,o,w,a⟩:=a;obtain⟨e,c,b,p,r⟩:=aX.split (q:=q) a;exact⟨e,c,b,⟨l,t,x,v,m,aq,n,o,w,p⟩,r⟩
  case optr.deref=>
   obtain⟨l,t,m,aq,n,o,a⟩:=a;obtain⟨e,c,b,p,r⟩:=aX.split (q:=q) a;exact⟨e,c,b,⟨l,t,m,aq,n,o,p⟩,r⟩
  case st.unst=>exact aX.split (q:=q) a
  case pr.fst=>exact aX.split (q:=q) a
  case pr.snd=>exact aX.split (q:=q) a
theorem aX.upper {B:ah} {c A:bm aZ} (z:fm d c=Y B) (h:rJ c n=Y A) (a:aX f d bo y n r (Y (b,i)) g) (x:∀(n:bm aZ) (r:ah) (k:Loc) (g:ahS),g8 c n=bp->aX f d bo y n r k g->aX m d bo y n r k g):∃o,aX m d bo y n r (Y (b,i)) o:=by
 obtain⟨F,q,s⟩:=x0 z h a;obtain⟨I,E,e⟩:=QH q s;obtain⟨C,t⟩:=e f (Y (b,i)) g;obtain⟨H,j,l,u,v⟩:=aX.split (x _ _ _ _ (QF h) (a.append t));have aq:=u.ty;rw[a.ty] at aq;obtain rfl:=gC aq;obtain⟨D,w⟩:=e m j l;obtain⟨_,p,_⟩:=v.lB w;cases j with
 |none=>cases p
 |some G=>
  grind
def k4 (c:bm (X×bm aZ)):ak->bA
 |.ref id []=>c.any λa=>bH a.1 id
 |.ref id b=>c.any λa=>bH a.1 id&&g8 a.2 b
 |.addr id b=>c.any λa=>bH a.1 id&&H4 a.2 b
 |.view id b _ _=>c.any λa=>bH a.1 id&&g8 a.2 b
 |_=>bq
def kf (c:ahY) (b:bm (X×bm aZ)):ak->bA
 |.eA _ f=>f.all λa=>!(a.fo c)||k4 b a
 |.hy a=>k4 b a
 |.app id h _ _ g=>(g.all λe=>!(eP e c))&&b.any λd=>bH d.1 id&&kW d.2 h
 |a=>k4 b a
def fc (b:ahY) (c:bm (X×bm aZ)) (a:ak):ak:=bif a.fo b&&!(kf b c a) then .dead else a
def fI (b:ahY) (c:bm (X×bm aZ)):ak->ak
 |.fe d=>.fe (d.map (fc b c))
 |a=>fc b c a
def kill (b:ahY) (d:bm (X×bm aZ)) (c:bm (X×ak)):bm (X×ak):=c.map λa=>(a.1,fI b d a.2)
def del (a:ahY) (b:bm (X×aF)):bm (X×aF):=b.filter λc=>!(eP c.1 a)
theorem D9 (a:bm aZ):g8 [] a=bq:=by grind [g8,nC]
def xn (b:ahY):bm (X×bm aZ):=b.map λa=>(a,[])
theorem p2 (c:ahY) (e:bm (X×bm aZ)):∀(d:bm (X×ak)) (b:X),gt (kill c e d) b=fI c e (gt d b)
 |[],b=>by simp[kill,gt,ar,fI,fc,ak.fo,ak.ids]
 |(f,a)::d,b=>by
  show gt ((f,fI c e a)::kill c e d) b=_;rw[iQ,iQ];split
  ·rfl
  exact p2 c e d b
theorem mW (a:ahY):∀(c:bm (X×aF)) (b:X),ar (del a c) b=if b∈a then bo else ar c b
 |[],b=>by simp[del,ar]
 |(d,t)::c,b=>by
  have f:=mW a c b;simp only[del] at f|-;rw[nY];cases e:eP d a with
  |true=>
   have:d∈a:=ha.1 e;simp only[gR,Bool.false_eq_true,if_false];grind [dh]
  |false=>
   have:d∉a:=λc=>(by grind [ha]);simp only[mh,cf];grind [dh]
theorem Ke (a:V.fo k=bq):∀id∈V.ids,id∉k:=λid c b=>by grind [ami,ha,ak.fo]
structure ni (C:eX) (st:aO) (w w':bD) (I I':X->Prop) (rt:X->ahS) (fp:X->ahY) (S:ahY) (Nv:bm (X×bm aZ)) (new:bm (X×aF)) (rtn:X->ahS) (fpn:X->ahY):Prop where
 size:w.heap.size<=w'.heap.size
 os:w'.os=w.os
 tape:w'.tape=w.tape
 output:w'.output=w.output
 heap:∀b,b<w.heap.size->(∀id∈S,∀t,ar st.h id=Y t->b∉fp id)->w'.heap[b]?=w.heap[b]?
 evo:∀b,b<w.heap.size->kO w w' b
 i:∀b,I b->I' b
 i2:∀b,I' b->I b\/(b<w'.heap.size/\(w.heap.size<=b\/∃id∈S,∃t,ar st.h id=Y t/\b∈fp id))
 tree:∀id t,ar new id=Y t->(id∈S\/ar st.h id=bo)/\aR (bb I' C.B) w' t.1 (rtn id) t.2 (fpn id)/\(fpn id).Nodup/\∀b∈fpn id,¬I' b/\b<w'.heap.size/\(w.heap.size<=b\/∃Nb∈S,∃t',ar st.h Nb=Y t'/\b∈fp Nb)
 dis:∀i j t u,ar new i=Y t->ar new j=Y u->i≠j->∀b∈fpn i,b∉fpn j
 keep:∀e∈Nv,∀t,ar st.h e.1=Y t->∃t',ar new e.1=Y t'/\t'.1=t.1/\rtn e.1=rt e.1/\(∃aeK,fm t.1 e.2=Y aeK)/\∀(q:bm aZ) (RA:ah) (NR:Loc) (L1:ahS),g8 e.2 q=bp->aX w t.1 bo (rt e.1) q RA NR L1->aX w' t.1 bo (rt e.1) q RA NR L1
 app:∀e∈Nv,∀t,ar st.h e.1=Y t->∀(q:bm aZ) (τ:ah) (xs:bm τ.den) (loc:Loc) (ud:ahS) (f1:ahY),kW e.2 q=bp->τ.kF=bp->aX w t.1 bo (rt e.1) q (.osl τ) loc ud->eN t.1 t.2 q (.osl τ) xs->aR (bb I C.B) w (.osl τ) ud xs f1->∃t',ar new e.1=Y t'/\eN t'.1 t'.2 q (.osl τ) xs/\∀b∈f1,b∈fpn e.1/\c5 w w' b
theorem cM.eB {w':bD} {I':X->Prop} {rtn:X->ahS} {fpn:X->ahY} {S:ahY} {keep:bm (X×bm aZ)} {new:bm (X×aF)} (e:cM U O z f j p q) (l:ni U O f w' j I' p q S keep new rtn fpn):cM U ⟨kill S keep O.g,new++del S O.h⟩ z w' I' (fi new rtn p) (fi new fpn q):=by
 have V:∀a0 a,bb j U.B a0 a->bb I' U.B a0 a/\c5 f w' a:=λa0 a b=>by
  refine⟨?_,.of_heap (l.heap a (e.ib a (mX b)) (λid _ c k fs=>e.notM k a fs a0 b))⟩;cases a0
  ·exact l.i a b
  exact b.imp (l.i a) id
 have co:∀id c,ar (new++del S O.h) id=Y c->(ar new id=Y c/\fi new rtn p id=rtn id/\fi new fpn q id=fpn id)\/(ar new id=bo/\id∉S/\ar O.h id=Y c/\fi new rtn p id=p id/\fi new fpn q id=q id):=λid c k=>by
  rw[kC,mW] at k;cases J:ar new id with
  |none=>
   rw[J] at k;simp only[Option.none_or] at k;split at k
   ·cases k
   rename_i D;exact .inr ⟨bn,D,k,by simp[fi,J],by simp[fi,J]⟩
  |some l=>grind [fi]
 have ds:∀id c,ar O.h id=Y c->id∉S->∀a∈q id,c5 f w' a:=λid c k D a b=>.of_heap (l.heap a ((e.tree id c k).2.2 a b).2.2.1 (λI av r H A=>
  e.dis id I c r k H (λd=>D (by grind)) a b A))
 have ex:∀id c,ar O.h id=Y c->id∉S->∀a∈q id,¬I' a:=λid c k D a b K=>by
  have u:=(e.tree id c k).2.2 a b;rcases l.i2 a K with K|⟨_,K|⟨I,av,r,H,A⟩⟩
  ·grind
  ·omega
  exact e.dis id I c r k H (λd=>D (by grind)) a b A
 refine{n:=e.n,i0:=λa b=>l.i a (e.i0 a b),i1:=?_,ib:=?_,tree:=?_,dis:=?_,tmp:=?_,frame:=?_,evo:=λa b=>(e.evo a b).trans (l.evo a (i6 b e.size)),size:=eD e.size l.size,os:=l.os.trans e.os,tape:=l.tape.trans e.tape,output:=l.output.trans e.output,pin:=e.pin}
 ·intro a b;rcases l.i2 a b with b|⟨_,b|⟨I,av,r,H,A⟩⟩
  ·exact e.i1 a b
  ·exact .inr (.inl (eD e.size b))
  exact .inr ((e.tree I r H).2.2 a A).2.2.2
 ·intro a b;rcases b with b|b
  ·rcases l.i2 a b with b|⟨b,_⟩
   ·exact i6 (e.ib a (.inl b)) l.size
   omega
  exact i6 (e.ib a (.inr b)) l.size
 ·intro id c k;rcases co id c k with⟨s,m,w⟩|⟨el,D,s,m,w⟩
  ·obtain⟨_,aw,y,C⟩:=l.tree id c s;rw[m,w];refine⟨aw,y,λa b=>?_⟩;obtain⟨a3,a4,ap⟩:=C a b;rcases ap with ap|⟨I,av,r,H,A⟩
   ·exact⟨a3,λem=>by have:=e.ib a (.inr em);omega,a4,.inl (eD e.size ap)⟩
   have u:=(e.tree I r H).2.2 a A;grind
  obtain⟨aw,y,C⟩:=e.tree id c s;rw[m,w];refine⟨aw.mono V (ds id c s D),y,λa b=>?_⟩;obtain⟨a3,a4,ap,aJ⟩:=C a b;exact⟨ex id c s D a b,a4,i6 ap l.size,aJ⟩
 ·intro o ad c M K fz d1 a b;rcases co o c K with⟨s,_,w⟩|⟨el,D,s,_,w⟩<;>rcases co ad M fz with⟨am,_,d7⟩|⟨go,D8,am,_,d7⟩<;>rw[w] at b<;>rw[d7]
  ·exact l.dis o ad c M s am d1 a b
  ·intro A;rcases((l.tree o c s).2.2.2 a b).2.2 with u|⟨I,av,r,H,ci⟩
   ·have:=((e.tree ad M am).2.2 a A).2.2.1;omega
   exact e.dis ad I M r am H (λd=>D8 (by grind)) a A ci
  ·intro A;rcases((l.tree ad M am).2.2.2 a A).2.2 with u|⟨I,av,r,H,ci⟩
   ·have:=((e.tree o c s).2.2 a b).2.2.1;omega
   exact e.dis o I c r s H (λd=>D (by grind)) a b ci
  exact e.dis o ad c M s am d1 a b
 ·intro bl;show cN _ _ _ _ _ (gt (kill S keep O.g) bl) _;rw[p2];have x:=e.tmp bl;generalize gt O.g bl=v at x;generalize z.getD bl bW=P at x;suffices ek:∀(v:ak) (P:Value),cN (bb j U.B) f O.h p q v P->cN (bb I' U.B) w' (new++del S O.h) (fi new rtn p) (fi new fpn q) (fc S keep v) P by
   cases v with
   |fe f3=>
    cases x with|fe d2 J=>
    refine .fe (by grind) (λo T M s m=>?_);grind
   |_=>exact ek _ _ x
  clear x;have bx:∀(v:ak) (P:Value),cN (bb j U.B) f O.h p q v P->v.fo S=bq\/k4 keep v=bp->cN (bb I' U.B) w' (new++del S O.h) (fi new rtn p) (fi new fpn q) v P:=by
   intro v P x f1;cases d6:v.fo S with
   |false=>
    refine x.s3 V (λid cs c k=>?_);have D:=Ke d6 id cs;have f0:ar new id=bo:=by
     cases J:ar new id with
     |none=>rfl
     |some c2=>
      rcases(l.tree id c2 J).1 with u|u
      ·grind
      grind
    refine⟨by simp_all [kC,mW,ax],by grind [fi],by grind [fi],(e.tree id c k).1,ds id c k D⟩
   |true=>
    have L:k4 keep v=bp:=f1.resolve_left (by grind);have bs:∀(id:X) (c:aF),ar O.h id=Y c->∀d∈keep,d.1=id->∃r,ar (new++del S O.h) id=Y r/\r.1=c.1/\fi new rtn p id=p id/\(∃gc,fm c.1 d.2=Y gc)/\
     ∀(u:bm aZ) (d9:ah) (d8:Loc) (ce:ahS),g8 d.2 u=bp->aX f c.1 bo (p id) u d9 d8 ce->aX w' c.1 bo (p id) u d9 d8 ce:=by
     intro id c k d E cs;subst cs;obtain⟨r,aw,y,C,an,R⟩:=l.keep d E _ k;grind [kC]
    have dl:∀(id:X) (u:bm aZ),(keep.any λd=>bH d.1 id&&g8 d.2 u)=bp->∃d∈keep,d.1=id/\g8 d.2 u=bp:=(by simp_all);cases v with
    |ref id Q=>
     cases Q with
     |nil=>
      obtain⟨d,E,m⟩:=pw.1 (show(keep.any λd=>bH d.1 id)=bp from L);have m:=fv m;cases x with|ref k F=>
      obtain⟨rfl,rfl,rfl⟩:=aX.gw.1 F;obtain⟨r,aw,y,C,_⟩:=bs id _ k d E m;rw[<-y];refine .ref (loc:=bo) aw ?_;grind [aX.here]
     |cons f8 Q=>
      obtain⟨d,E,m,w⟩:=dl id (f8::Q) L;cases x with|ref k F=>
      obtain⟨r,aw,y,C,an,R⟩:=bs id _ k d E m;have G:=R _ _ _ _ w F;rw[<-C,<-y] at G;exact .ref aw G
    |addr id Q=>
     obtain⟨d,E,m⟩:=pw.1 (show(keep.any λd=>bH d.1 id&&H4 d.2 Q)=bp from L);simp only[cC] at m;obtain⟨m,w⟩:=m;have m:=fv m;cases x with|addr k F=>
     obtain⟨r,aw,y,C,an,R⟩:=bs id _ k d E m;rcases Bc.1 w with w|w
     ·have G:=R _ _ _ _ w F;rw[<-C,<-y] at G;exact .addr aw G
     obtain⟨hc,N⟩:=ak5.1 w;obtain⟨_,an⟩:=an;obtain⟨ce,G⟩:=aX.upper an N F R;rw[<-C,<-y] at G;exact .addr aw G
    |view id Q gs K=>
     obtain⟨d,E,m,w⟩:=dl id Q L;cases x with|me=>(exact .me _ _)|view k F f4 f5 f6=>
     obtain⟨r,aw,y,C,an,R⟩:=bs id _ k d E m;have G:=R _ _ _ _ w F;rw[<-C,<-y] at G;exact .view aw G f4 f5 f6
    |_=>cases L
  intro v P x;unfold fc;cases d6:v.fo S with
  |false=>grind
  |true=>
   cases L:kf S keep v with
   |false=>simp only[mh,Bool.and_self,bG];exact .dead _
   |true=>
    simp only[gR,Bool.and_false,bP];cases v with
    |eA ge f3=>
     cases x with|eA d2 J=>
     refine .eA d2 (λo T M s m=>bx T M (J o T M s m) ?_);have:=gY.1 L T (i4 s);grind
    |hy T=>
     cases x with|hy b fn cv fl=>
     exact .hy (V _ _ b).1 (by rw[((V _ _ b).2.1 0).1];exact fn) cv (bx T _ fl (.inr L))
    |app id u f9 hs c1=>
     cases x with|app k d5 F ft s gf m f2 gi fT=>
     have N:((c1.all λo=>!(eP o S))&&keep.any λd=>bH d.1 id&&kW d.2 u)=bp:=L;rw[cC] at N;obtain⟨cv,N⟩:=N;have cv:∀o∈c1,o∉S:=λo K d3=>(by grind [ha,ai5]);obtain⟨d,E,N⟩:=pw.1 N;simp only[cC] at N;obtain⟨fp,d0⟩:=N;obtain rfl:=fv fp;obtain⟨r,aw,y,C⟩:=l.app d E _ k u f9 _ _ _ _ d0 d5 F ft s;obtain⟨hi,a3,a4,ap,_,f7⟩:=l.keep d E _ k;rw[aw] at a3;obtain rfl:=gC a3;have f0:∀o∈c1,ar new o=bo:=λo K=>by
      cases J:ar new o with
      |none=>rfl
      |some c2=>
       obtain⟨_,hr,gl⟩:=f2 o K;rcases(l.tree o c2 J).1 with u|u
       ·grind
       grind
     have d3:fi new rtn p d.1=p d.1:=(by grind [fi]);have d4:=f7 u _ _ _ (Hd d0) F;rw[<-a4,<-d3] at d4;refine .app (t:=r) (by grind [kC]) d5 d4 y (s.mono V (λa b=>(C a b).2)) (λa b=>by grind [fi]) (m.mono V (λa b=>?_)) (λo K=>?_) (λa b=>?_) fT
     ·grind
     ·simp_all [kC,mW,ax]
     grind [fi]
    |_=>exact bx _ P x (.inr L)
 intro a b eq;rw[l.heap a (i6 b e.size)]
 ·exact e.frame a b eq
 intro id _ c k A;have:=((e.tree id c k).2.2 a A).2.2.2;grind
section
def kn (k:eC->X->Prop) (i:bD) (a:ah) (l:bv Addr) (d:bm a.den) (g:ev):Prop:=
 g.length=d.length/\(d=[]\/∃e h,l=Y ⟨e,h,bo⟩/\∀(c:X) (j:a.den) (f:ahY),d[c]?=Y j->g[c]?=Y f->∃b,b.length=a.size/\fr i e (h+c*a.size) b/\aR k i a b j f)
theorem kn.a2 {h:eC} {a:bm d.den} (c:aR e f (.a2 h d) [.slice s b i] a []):b=a.length/\kn e f d s a (bJ a.length []):=by obtain⟨_,j,k,g,_,_,c⟩:=c;simp only[hL,ah7,b9] at g;obtain⟨rfl,rfl,rfl⟩:=g;refine⟨bn,ac,c.imp id ?_⟩;grind
theorem kn.osl {l:bm d.den} (g:aR e f (.osl d) [.slice s i b] l k):i=l.length/\i<=b/\∃h,kn e f d s l h/\(∀j∈h.flatten,j∈k)/\(k.Nodup->h.flatten.Nodup)/\((s=bo/\b=0/\k=[])\/∃a c,s=Y ⟨a,c,bo⟩/\k=a::h.flatten/\iE f a c (c+b*d.size)):=by
 obtain⟨t,j,m,g⟩:=g;simp only[hL,ah7,b9] at m;obtain⟨rfl,rfl,rfl⟩:=m;rcases g with⟨rfl,rfl,rfl,rfl⟩|⟨a,c,n,rfl,rfl,aw,p,q,r⟩
 ·exact⟨bn,bc _,[],⟨bn,.inl bn⟩,ac,ac,.inl ⟨bn,bn,bn⟩⟩
 refine⟨bn,p,n,⟨aw,.inr ⟨a,c,bn,r⟩⟩,λj o=>hY _ o,λg=>(ko.1 g).2,.inr ⟨a,c,bn,bn,q⟩⟩
theorem kn.cells {b:bm d.den} {q:ev} (j:kn e f d s b q) (v:0<d.size):∃n:ahS,n.length=b.length*d.size/\(∀i∈n,i.oneCell'=bp)/\(∀c,s=Y c->b≠[]->∀(k:X) i,n[k]?=Y i->f.cell? (c.add k)=Y i)/\∀(g:X) (o:d.den) (m:ahY),b[g]?=Y o->q[g]?=Y m->aR e f d ((n.drop (g*d.size)).take d.size) o m:=by
 obtain⟨D,j⟩:=j;rcases j with rfl|⟨c,l,rfl,j⟩
 ·simp_all
 have C:∀a,a<b.length*d.size->∃i,f.cell? ⟨c,l+a,bo⟩=Y i/\i.oneCell'=bp:=by
  intro a B;have t:a/d.size<b.length:=(akx v).2 B;obtain⟨h,x,p,r⟩:=j (a/d.size) b[a/d.size] (q[a/d.size]'(by omega)) ac ac
  have E:=aju a v;have:h[a %d.size]?=Y (h[a %d.size]'(by omega)):=ba _
  refine⟨_,?_,r.one _ (cR (by omega:a %d.size<h.length))⟩;have:=p _ _ this;grind [aky,Nat.mul_comm]
 have A:∀a,((bI (b.length*d.size)).map λa=>(f.cell? ⟨c,l+a,bo⟩).getD bW)[a]?=if a<b.length*d.size then f.cell? ⟨c,l+a,bo⟩ else bo:=by grind
 refine⟨(bI (b.length*d.size)).map λa=>(f.cell? ⟨c,l+a,bo⟩).getD bW,ac,?_,?_,?_⟩
 ·grind
 ·grind [aiU]
 intro g o m w z;obtain⟨h,x,p,r⟩:=j g o m w z;have t:g<b.length:=(hF.1 w).1;have:(((bI (b.length*d.size)).map λa=>(f.cell? ⟨c,l+a,bo⟩).getD bW).drop (g*d.size)).take d.size=h:=by
  apply hM;intro k;rcases cO k d.size with u|u
  ·rw[rZ u,pA,A];have y:(g+1)*d.size<=b.length*d.size:=h5 _ t;rw[lu,lv] at y;rw[au aa];have:h[k]?=Y (h[k]'(by omega)):=ba _
   rw[this,<-ajv];exact p _ _ this
  grind
 grind
section
variable {P:b0}
theorem SP {w:bD} {ty:bF} {j:TypeInfo} (p:P.underlying x=Y (.slice a)) (A:fj P d a) (i:P.info? a=Y j) (a4:d.size<=1300) {ad yd:bv Addr} {n cap m c:X} {olds news:ahS} (M:olds.length=n*d.size) (ap:∀b,ad=Y b->∀(f:X) (g:Value),olds[f]?=Y g->w.cell? (b.add f)=Y g) (av:∀b,ad=Y b->b.spot=bo) (J:n<=cap) (an:ad=bo->cap=0) (t:news.length=m*d.size) (H:∀g∈news,g.oneCell'=bp) (C:∀b,yd=Y b->0<m->∀(f:X) (g:Value),news[f]?=Y g->w.cell? (b.add f)=Y g) (bl:yd=bo->m=0) (L:∀b,ad=Y b->iE w b.block b.off (b.off+cap*d.size)) (U:n+m<=hB):∃F o,(ajU #[x,x] ty #[.slice ad n cap,.slice yd m c]).run P w=.ok F o/\((
   n+m<=cap/\F=.slice ad (n+m) cap/\((ad=bo/\o=w)\/∃b,ad=Y b/\o=w.setCells b.block (b.off+n*d.size) news))\/
   ∃(e:X) (v:ahQ),cap<n+m/\n+m<=e/\F=.slice (Y ⟨w.heap.size,0,bo⟩) (n+m) e/\hj w o/\o.heap[w.heap.size]?=Y (.cells v a (0,0))/\o.heap.size=w.heap.size+1/\e*d.size<=v.size/\∀(f:X) (g:Value),(olds++news)[f]?=Y g->v[f]?=Y g):=by
 obtain⟨bs,_,h,_⟩:=A.info;have G:=h.info;rw[i] at G;cases G;have a3:=A.pos;by_cases D:n+m<=cap
 ·by_cases q:m=0
  ·subst q;obtain rfl:news=[]:=qv aa;have K:(amj d.size 0 (.slice yd 0 c)).run P w=.ok #[] w:=by
    cases yd with
    |none=>rfl
    |some b=>simp[amj,loadCells,loadCellsFrom]
   refine⟨.slice ad n cap,w,?_,.inl ⟨D,bn,?_⟩⟩
   ·cases ad with
    |none=>simp[ajU,b8 p,aiM,aiw,i,amk,h.size,J,K]
    |some b=>simp[ajU,b8 p,aiM,aiw,i,amk,h.size,J,K,storeCells]
   cases ad with
   |none=>grind
   |some b=>exact .inr ⟨b,bn,bn⟩
  cases ad with
  |none=>grind
  |some b=>
   cases yd with
   |none=>grind
   |some k=>
    obtain⟨N,O,Q⟩:=b;obtain rfl:Q=none:=av _ rfl;have V:(n+m)*d.size<=cap*d.size:=h5 _ D;rw[lu] at V;have r:=run_append_room_cells (P:=P) w x ty a j p i N O n cap k m c news (by rw[h.size];exact t) (C k bn aa) H D (λf T=>(L _ rfl _ (by grind) (by rw[h.size];grind)).1) (λf T=>(L _ rfl _ (by grind) (by rw[h.size];grind)).2);rw[h.size] at r;grind
 obtain⟨l,a0,u⟩:=A.HT;have u:=u j i;have q:0<m:=aa;cases yd with
 |none=>grind
 |some k=>
  have I:(n+m)*j.bytes<=140737488355328:=(by have H:(n+m)*j.bytes<=hB*31200:=mR U (by have:=h.bytes;omega);grind [hB]);have B:((n+m:X):Z)<=9223372036854775807:=(by grind [hB]);have z:∀(E:X),let e:=grownCap w (n+m) E a
   n+m<=e/\hj w (w.drew.alloc (.cells (olds.toArray++news.toArray++ajV l.cells (e-(n+m))) a))/\
   (w.drew.alloc (.cells (olds.toArray++news.toArray++ajV l.cells (e-(n+m))) a)).heap[w.heap.size]?=Y (.cells (olds.toArray++news.toArray++ajV l.cells (e-(n+m))) a (0,0))/\
   e*d.size<=(olds.toArray++news.toArray++ajV l.cells (e-(n+m))).size/\
   ∀(f:X) (g:Value),(olds++news)[f]?=Y g->(olds.toArray++news.toArray++ajV l.cells (e-(n+m)))[f]?=Y g:=by
   intro E e;have S:n+m<=e:=grownCap_ge w (n+m) E a;refine⟨S,(hj.refl w).drew.trans (hj.alloc _ _),heap_alloc_new w.drew _,?_,?_⟩
   ·simp only[Array.size_append,tN,size_zeroCells,a0,M,t,<-lu];grind
   grind
  cases ad with
  |some b=>
   have r:=run_append_grow (P:=P) w x ty a j l p i u b n cap olds (by rw[h.size];exact M) (ap b bn) k m c news (by rw[h.size];exact t) (C k bn q) aa B (growslice_fits aa I);obtain⟨y,f2,s,f4,f5⟩:=z cap;exact⟨_,_,r,.inr ⟨_,_,aa,y,bn,f2,s,ac,f4,f5⟩⟩
  |none=>
   have R:=an bn;have am:n=0:=aa;subst R;subst am;obtain rfl:olds=[]:=qv aa;simp only[nf] at B I z;have r:=run_append_nil (P:=P) w x ty a j l p i u k m c news (by rw[h.size];exact t) (C k bn q) q B aa;obtain⟨y,f2,s,f4,f5⟩:=z 0;simp only[iu,Array.empty_append] at y f2 s f4 f5;refine⟨_,_,r,.inr ⟨_,_,aa,aa,by rw[nf],f2,s,ac,f4,f5⟩⟩
end
end
theorem xX (b:X):∀(g:ahS) (d:X) (c:bD) (a:X),a≠b->(c.setCells b d g).heap[a]?=c.heap[a]?
 |[],_,_,_,_=>rfl
 |v::f,d,c,a,e=>by rw[akz,xX b f _ _ a e];simp only[aml,Array.getElem?_modify];grind
theorem tm (b:X):∀(e:ahS) (c:X) (a:bD),(a.setCells b c e).heap.size=a.heap.size
 |[],_,_=>rfl
 |v::d,c,a=>by rw[akz,tm b d];simp
def pe (b:X):∀(d:ahS) (c:X) (a:bD),(a.setCells b c d).os=a.os/\(a.setCells b c d).tape=a.tape/\(a.setCells b c d).output=a.output
 |[],_,_=>⟨bn,bn,bn⟩
 |v::e,c,a=>by rw[akz];exact pe b e _ _
theorem JJ (d:X) (e:ahS) (b:X) (f:bD) (g:∀c,c<e.length->(f.cell? ⟨d,b+c,bo⟩).isSome=bp) (a:X):((f.setCells d b e).cell? ⟨d,a,bo⟩).isSome=(f.cell? ⟨d,a,bo⟩).isSome:=by
 by_cases h:b<=a/\a<b+e.length
 ·obtain⟨c,rfl⟩:∃c,a=b+c:=⟨a-b,aa⟩;grind [ajW]
 grind [akA]
theorem WZ (b:bD) (c:Addr) (d:Value) (a:X):iS (b.setCell c d) a=iS b a:=by unfold iS aml;grind
def Ad (d:X):∀(f:ahS) (b:X) (c:bD) (a:X),iS (c.setCells d b f) a=iS c a
 |[],_,_,_=>rfl
 |v::e,b,c,a=>by rw[akz,Ad d e (b+1),WZ]
theorem rH {vs:ahS} {o:X} {w:bD} (a:i≠b):c5 w (w.setCells b o vs) i:=.of_heap (xX b vs o w i a)
theorem Lc {P:b0} {ty:bF} {el:TypeInfo} (c1:P.underlying x=Y (.slice a)) (ap:fj P d a) (d2:P.info? a=Y el) (d7:d.size<=1300) {R:bv Addr} {c:X} {q I:bm d.den} {t:ev} (U:aR e f (.osl d) [.slice s i b] q k) (V:kn e f d R I t) (bl:k.Nodup) (cs:∀h∈k,∀o,¬e o h) (gc:t.flatten.Nodup) (ds:∀h∈k,h∉t.flatten) (cv:∀o h,e o h->h<f.heap.size) (d0:∀h∈k,h<f.heap.size) (ek:∀h∈t.flatten,h<f.heap.size) (d4:q.length+I.length<=hB):∃an p f2,(ajU #[x,x] ty #[.slice s i b,.slice R I.length c]).run P f=.ok an p/\aR e p (.osl d) [an] (q++I) f2/\aR e p (.osl d) [.slice s i b] q k/\f2.Nodup/\(∀h∈f2,h∈k\/h∈t.flatten\/(f.heap.size<=h/\h<p.heap.size))/\f.heap.size<=p.heap.size/\p.os=f.os/\p.tape=f.tape/\p.output=f.output/\(∀h,h<f.heap.size->h∉k->p.heap[h]?=f.heap[h]?)/\(∀o h,e o h->c5 f p h)/\(∀h∈t.flatten,c5 f p h)/\(∀h,h<f.heap.size->iS p h=iS f h):=by
 obtain⟨rfl,av,z,ce,f0,f1,d9⟩:=kn.osl U;have bs:=ap.pos;obtain⟨G,am,gl,fl,go⟩:=ce.cells bs;obtain⟨v,em,eq,ex,gf⟩:=V.cells bs;have a4:=ce.1;have f7:=V.1;obtain⟨an,p,T,dl⟩:=SP (P:=P) (w:=f) (ty:=ty) c1 ap d2 d7 (ad:=s) (yd:=R) (n:=q.length) (cap:=b) (m:=I.length) (c:=c) (olds:=G) (news:=v) am (λh K l y A=>fl h K (by grind) l y A) (λh K=>by grind) av (λM=>by grind) em eq (λh K f8 l y A=>ex h K (by grind) l y A) (λM=>by rcases V.2 with rfl|⟨h,gi,E,_⟩;rfl;grind) (λh K=>by
   grind) d4
 have fT:(z++t).flatten=z.flatten++t.flatten:=ac;have f9:(z++t).flatten.Nodup:=(by grind);have S:∀(g:X) (F:d.den) (C:ahY),(q++I)[g]?=Y F->(z++t)[g]?=Y C->aR e f d (((G++v).drop (g*d.size)).take d.size) F C/\∀h∈C,h∈z.flatten\/h∈t.flatten:=by
  intro g F C j L;rcases cO g q.length with E|E
  ·rw[qx E] at j;rw[qx aa] at L;have u:(g+1)*d.size<=q.length*d.size:=h5 _ E;rw[lu,lv] at u;rw[rY aa,tO (by grind)];grind [ajn,aig]
  rw[pz E] at j;rw[pz aa,a4] at L;have u:q.length*d.size<=g*d.size:=h5 _ E;rw[List.drop_append,qu aa,iu,am,show g*d.size-q.length*d.size=(g-q.length)*d.size by rw[Nat.sub_mul]];grind [ajn,aig]
 rcases dl with⟨d6,rfl,d8⟩|⟨ci,co,f4,f3,rfl,D,d1,f5,fz,ft⟩
 ·rcases d8 with⟨rfl,rfl⟩|⟨h,rfl,rfl⟩
  ·have fs:b=0:=(by grind);obtain rfl:q=[]:=qv aa;obtain rfl:I=[]:=qv aa;exact⟨_,p,k,T,by grind,U,bl,λh K=>.inl K,bc _,bn,bn,bn,λ_ _ _=>rfl,λ_ _ _=>c5.refl _ _,λ_ _=>c5.refl _ _,λ_ _=>rfl⟩
  rcases d9 with⟨M,_⟩|⟨r,B,M,rfl,a0⟩
  ·cases M
  cases M;have fp:r∉z.flatten:=(ko.1 bl).1;have c2:r∉t.flatten:=ds r ac;have d5:(q.length+I.length)*d.size<=b*d.size:=h5 _ d6;rw[lu] at d5;have bx:∀l,l<v.length->(f.cell? ⟨r,B+q.length*d.size+l,bo⟩).isSome=bp:=λl A=>(a0 _ aa aa).1;have J:∀o g,e o g->e o g/\c5 f (f.setCells r (B+q.length*d.size) v) g:=λo g j=>⟨j,rH (λO=>cs r ac o (O▸j))⟩;have a3:iE (f.setCells r (B+q.length*d.size) v) r B (B+b*d.size):=λl u N=>(by rw[JJ r v _ f bx,alh];exact a0 l u N);have fn:∀l y,(G++v)[l]?=Y y->(f.setCells r (B+q.length*d.size) v).cell? ⟨r,B+l,bo⟩=Y y:=by
   intro l y A;rcases cO l G.length with E|E
   ·grind [aiU,akA,List.getElem?_append_left]
   rw[pz E] at A;obtain⟨H,rfl⟩:∃H,l=G.length+H:=⟨l-G.length,aa⟩;rw[r2] at A;have Q:H<v.length:=(hF.1 A).1;rw[am,<-ajv,ajW r v _ f bx H Q];grind
  refine⟨_,_,r::(z++t).flatten,T,?_,?_,?_,?_,by rw[tm];omega,(pe _ _ _ _).1,(pe _ _ _ _).2.1,(pe _ _ _ _).2.2,?_,λo g j=>(J o g j).2,λg j=>rH (λO=>c2 (by grind)),λg _=>Ad _ _ _ _ _⟩
  ·refine⟨Y ⟨r,B,bo⟩,b,ac,.inr ⟨r,B,z++t,bn,bn,by grind,by grind,a3,λg F C j L=>?_⟩⟩;obtain⟨u,N⟩:=S g F C j L;refine⟨_,u.len,λl y A=>?_,u.mono J (λH Q=>rH (λO=>?_))⟩
   ·have d3:(G++v)[g*d.size+l]?=Y y:=by
     grind
    grind
   grind
  ·refine⟨Y ⟨r,B,bo⟩,b,bn,.inr ⟨r,B,z,bn,bn,a4,av,a3,λg F C j L=>?_⟩⟩;have f6:g<q.length:=(hF.1 j).1;obtain⟨u,N⟩:=S g F C (by grind) (by grind);refine⟨_,u.len,λl y A=>?_,u.mono J (λH Q=>rH (λO=>?_))⟩
   ·have d3:(G++v)[g*d.size+l]?=Y y:=by
     grind
    grind
   grind
  ·grind
  ·grind
  grind [xX]
 have J:∀o g,e o g->e o g/\c5 f p g:=λo g j=>⟨j,.of_heap (D.heap g (cv o g j))⟩;have ge:∀l,p.cell? ⟨f.heap.size,l,bo⟩=co[l]?/\p.frozen? ⟨f.heap.size,l,bo⟩=bq:=λl=>(by simp[ai9,aks,d1]);refine⟨_,p,f.heap.size::(z++t).flatten,T,?_,U.mono J (λg j=>.of_heap (D.heap g (d0 g j))),?_,?_,D.size,D.os,D.tape,D.output,λg j _=>D.heap g j,λo g j=>(J o g j).2,λg j=>.of_heap (D.heap g (ek g j)),λg j=>(c5.of_heap (D.heap g j)).2⟩
 ·refine⟨Y ⟨f.heap.size,0,bo⟩,ci,ac,.inr ⟨f.heap.size,0,z++t,bn,bn,by grind,by grind,λl _ N=>?_,λg F C j L=>?_⟩⟩
  ·grind
  obtain⟨u,N⟩:=S g F C j L;refine⟨_,u.len,λl y A=>?_,u.mono J (λH Q=>.of_heap (D.heap H ?_))⟩
  ·grind
  grind
 ·grind
 grind
section
def fa.get:∀{p:bm aZ} {b:ah} {c j:b.den} {e:ah} {k:e.den},fa b c p e k j->∃d,eN b c p e d
 |[],b,c,_,_,_,a=>by obtain⟨rfl,_⟩:=fa.gw.1 a;exact⟨c,eN.gw.2 ⟨bn,bn⟩⟩
 |s::p,b,_,_,_,_,a=>by
  cases b<;>cases s<;>simp only[fa] at a
  case osl.idx=>obtain⟨g,f,i,a,_⟩:=a;obtain⟨d,h⟩:=fa.get (p:=p) a;exact⟨d,g,i,h⟩
  case optr.deref=>exact fa.get (p:=p) a
  case st.unst=>exact fa.get (p:=p) a
  case pr.fst=>obtain⟨f,a,_⟩:=a;exact fa.get (p:=p) a
  case pr.snd=>obtain⟨f,a,_⟩:=a;exact fa.get (p:=p) a
theorem fa.same:∀{p:bm aZ} {c:ah} {b:c.den} {d:ah} {f:d.den},eN c b p d f->fa c b p d f b
 |[],c,b,_,_,a=>by grind [fa.gw,eN.gw]
 |s::p,c,b,_,_,a=>by
  cases c<;>cases s<;>simp only[eN] at a
  case osl.idx i=>
   obtain⟨e,g,a⟩:=a;refine⟨e,e,g,fa.same (p:=p) a,?_⟩;grind [List.set_getElem_self,aiF]
  case optr.deref=>exact fa.same (p:=p) a
  case st.unst=>exact fa.same (p:=p) a
  case pr.fst=>exact⟨b.1,fa.same (p:=p) a,bn⟩
  case pr.snd=>exact⟨b.2,fa.same (p:=p) a,bn⟩
def En {a:N} {c:X->N}:fi [(b,P)] (λ_=>a) c b=a:=by simp[fi,dh]
section
variable {E:fB} {C:eX} {st:aO} {a:Act} {A:ahQ} {w:bD} {I:X->Prop} {rt:X->ahS} {fp:X->ahY} {o:bR}
theorem acJ {c:X} (j:g.length=c) (f:iE w i b (b+c)) (d:X):rT w (w.setCells i b g) (Y (i,b)) c d:=by
 have k:∀a,a<g.length->(w.cell? ⟨i,b+a,bo⟩).isSome=bp:=λa h=>(f _ aa aa).1;refine⟨λa h=>akA i g b w _ (λe _=>?_),λa=>alh _ _ _ _ _,λa=>?_,Ad _ _ _ _ _⟩
 ·grind
 by_cases e:d=i
 ·grind [JJ]
 rw[((rH (w:=w) (o:=b) (vs:=g) e).1 a).1]
theorem cM.adh (q:cM C st A w I rt fp) {id:X} (r:ar st.h id=Y P) {F:ahS} (N:aX w P.1 bo (rt id) n d (Y (b,i)) F) {x:d.den} {s:P.1.den} (D:fa P.1 P.2 n d x s) {p:ahY} (E:aR (bb I C.B) w d y x p) (ft:p.Nodup) (a3:id∉k) (ex:∀a∈p,(∃G,∃U:d.den,d.kF=bp/\aR (bb I C.B) w d F U G/\a∈G)\/∃c∈k,∃f,ar st.h c=Y f/\a∈fp c):iE w b i (i+d.size)/\∃rtn fpn,cM C ⟨kill (id::k) [(id,n)] st.g,(id,⟨P.1,s⟩)::del (id::k) st.h⟩ A (w.setCells b i y) I rtn fpn/\rtn id=rt id/\aX (w.setCells b i y) P.1 bo (rt id) n d (Y (b,i)) y:=by
 obtain⟨cs,R,el⟩:=q.tree id P r;obtain⟨U,ci⟩:=D.get;obtain⟨f3,d6,ad,T,am,d8,an,J,d9,ap,av⟩:=zU n (loc:=bo) cs (λ_ _ j=>by cases j) R (λ_ _ j=>by cases j) (q.notM r) ci;obtain⟨_,aq,V⟩:=N.lB am;subst aq;subst V;obtain⟨_,z⟩:=an b i bn;have em:b∈T:=(by grind);have bl:b∈fp id:=J.mem_iff.2 (by grind);have Q:=J.nodup_iff.1 R;rw[jR] at Q;obtain⟨fn,O,fs⟩:=Q;have eq:∀a∈p,a∈ad\/∃c∈k,∃f,ar st.h c=Y f/\a∈fp c:=λa e=>(by grind [aR.uniq]);have fz:∀c∈k,∀f,ar st.h c=Y f->∀a∈fp c,a∉fp id:=λc m f l a e K=>q.dis c id f P l r (λo=>a3 (o▸m)) a e K;have ce:∀a∈p,a∉T:=λa e K=>(by grind);have a0:∀v a,bb I C.B v a->a≠b:=λv a e o=>q.notM r b bl v (o▸e);have bs:=acJ (w:=w) E.len z;have c1:aR (bb I C.B) (w.setCells b i y) d y x p:=E.mono (λv a e=>⟨e,rH (a0 v a e)⟩) (λa e=>rH (λo=>ce a e (by grind)));have fT:∀u,u<y.length->(w.cell? ⟨b,i+u,bo⟩).isSome=bp:=λu t=>(z _ aa (by have:=E.len;omega)).1;have ek:fr (w.setCells b i y) b i y:=λu d3 t=>(by grind [bS,ajW,aiF]);obtain⟨d7,H,c2,_,ds,_,f0,d0,dl⟩:=ap (w.setCells b i y) (bb I C.B) y x p s (λ_ _ j=>j) (λa _=>bs a) c1 (λj=>by cases j) (λd4 f4 o=>by grind) D;obtain rfl:=ds bn (.inl ac);have bx:∀a∈H,a∈fp id\/∃c∈k,∃f,ar st.h c=Y f/\a∈fp c:=λa e=>(by grind);have a4:=q.eB (S:=id::k) (keep:=[(id,n)]) (new:=[(id,⟨P.1,s⟩)]) (rtn:=λ_=>rt id) (fpn:=λ_=>H) (w':=w.setCells b i y) (I':=I) ⟨?_,(pe _ _ _ _).1,(pe _ _ _ _).2.1,(pe _ _ _ _).2.2,?_,λa _=>.of_eq (Ad _ _ _ _ _),λ_ j=>j,λ_ j=>.inl j,?_,?_,?_,?_⟩
 ·exact⟨z,_,_,a4,by rw[En],d0⟩
 ·grind [tm]
 ·grind [xX]
 ·intro c f l;rw[dh] at l;split at l
  ·rename_i o;subst o;cases l;refine⟨.inl ac,c2,?_,λa e=>?_⟩
   ·grind
   rcases bx a e with j|⟨c,m,f,l,j⟩
   ·grind [tm]
   obtain⟨aw,d2,f5,f6⟩:=(q.tree c f l).2.2 a j;grind [tm]
  cases l
 ·intro c u f d3 m t fl;rw[dh] at m t;split at m
  ·split at t
   ·omega
   cases t
  cases m
 ·intro c m f l;simp only[gd] at m;subst m;rw[r] at l;obtain rfl:=gC l;refine⟨⟨P.1,s⟩,?_,bn,bn,⟨_,N.ty⟩,dl⟩;rw[dh,au bn]
 intro c m f l d1 f8 f7 f1 d5 f2 L co O M cv;simp only[gd] at m;subst m;rw[r] at l;obtain rfl:=gC l;refine⟨⟨P.1,s⟩,by rw[dh,au bn],uL L D M,λa e=>?_⟩;obtain⟨aw,d2⟩:=av d1 _ _ _ _ _ L (by exact co) M O cv a e;grind [akB,rH]
theorem cM.store (p:cM C st A w I rt fp) {id:X} (v:ar st.h id=Y P) {b:X} {c:ahS} (s:aX w P.1 bo (rt id) n d (Y (b,i)) c) {o:d.den} {m:P.1.den} (u:fa P.1 P.2 n d o m) {S2:ahY} (x:aR (bb I C.B) w d y o k) (t:k.Nodup) (q:id∉S2) (r:∀a∈k,(∃e,∃D:d.den,d.kF=bp/\aR (bb I C.B) w d c D e/\a∈e)\/∃j∈S2,∃z,ar st.h j=Y z/\a∈fp j):iE w b i (i+d.size)/\∃l f,cM C ⟨kill (id::S2) [(id,n)] st.g,(id,⟨P.1,m⟩)::del (id::S2) st.h⟩ A (w.setCells b i y) I l f:=by obtain⟨E,l,f,F,_⟩:=p.adh v s u x t q r;grind
inductive v8 where
 |e4 (s:aO)
 |part (α:Type) (φ:α->Prop) (f:α->aO)
 |bad
def v8.K (c:v8) (Q:aO->Prop):Prop:=
 match c with
 |.e4 d=>Q d
 |.part e f b=>∃a:e,f a/\Q (b a)
 |.bad=>b6
def eZ (E:fB) (C:eX) (o:bR) (st:aO) (Q:aO->Prop):Prop:=
 ∀(a:Act) (w:bD),gJ C st a.tmps w->∀(next:Act->bD->Prop) (e:b5->Act->bD->Prop),(∀c b d,Q c->b.defers=a.defers->gJ C c b.tmps d->next b d)->o.wp E.P a w next e
variable {Q:aO->Prop}
def eZ.eval {an:bm (X×ah)} (j:o.dst=Y b) (l:C.ok b) (i:(g2 E.tt an st.h (aT st.g) b o.op).K (λc e=>Q ⟨(b,c)::st.g,e++st.h⟩)):eZ E C o st Q:=by
 rintro a w ⟨I,rt,fp,d⟩ next r m
 exact(UB d i).wp d j l (λc e f q n k p=>m _ f q n k p)
def rD (b:bm (X×aF)) (c:ak):bv (X×bm aZ):=
 match c with
 |.addr id a=>Y (id,a)
 |.ref id a=>match ar b id with
  |some ⟨d,_⟩=>match fm d a with
   |some (.optr _)=>Y (id,a++[.deref])
   |_=>bo
  |none=>bo
 |_=>bo
def Fj (
 tt:bm (bF×ah)) (st:aO) (m:bF) (o v:ak):v8:=
 match rD st.h o with
 |none=>.bad
 |some (
  id,p)=>match ar st.h id,ar tt m with
  |some ⟨b,e⟩,Y n=>match fm b p with
   |none=>.bad
   |some c=>bif a7 n c then match v with
    |.ref d i=>match ar st.h d with
     |some ⟨r,j⟩=>bif bH id d then .bad else
      .part (c.den×b.den) (λa=>eN r j i c a.1/\fa b e p c a.1 a.2) (λa=>⟨kill [id,d] [(id,p)] st.g,(id,⟨b,a.2⟩)::del [id,d] st.h⟩)
     |none=>.bad
    |.app d i f q l=>if _e:c=.osl f then
     .part (bm f.den×b.den) (λa=>d=id/\i=p/\eN b e p (.osl f) a.1/\fa b e p (.osl f) (a.1++q) a.2) (λa=>⟨kill (id::l) [(id,p)] st.g,(id,⟨b,a.2⟩)::del (id::l) st.h⟩) else .bad
    |v=>match coe c v with
     |some j=>.part b.den (λk=>fa b e p c j k) (λk=>⟨kill [id] [(id,p)] st.g,(id,⟨b,k⟩)::del [id] st.h⟩)
     |none=>.bad
   else .bad
  |_,_=>.bad
theorem abe (m:cM C st a.tmps w I rt fp) {id:X} (b:rD st.h (aT st.g c)=Y (id,n)) (k:ar st.h id=Y P) (v:fm P.1 n=Y d):∃j q r,a.eval c=.pointer (Y ⟨j,q,bo⟩)/\aX w P.1 bo (rt id) n d (Y (j,q)) r:=by
 have i:=m.aT c;unfold rD at b;generalize B:a.eval c=E at i;split at b
 ·rename_i y A l;cases b;rw[l] at i;cases i with|addr f e=>
  rw[k] at f;cases f;have:=e.ty;grind
 ·rename_i y A l;split at b
  case h_2=>cases b
  rename_i G F p;split at b
  case h_2=>cases b
  rename_i D x;cases b;rw[k] at p;cases p;rw[l] at i;cases i with|ref f e=>
  rw[k] at f;cases f;have:=e.ty;rw[x] at this;cases this;obtain⟨j,z,u,rfl,s,t⟩:=pa (m.tree id _ k).1 e;have o:=e.append (aX.Hb s t);have:=o.ty;rw[v] at this;cases this;exact⟨j,z,u,bn,o⟩
 grind
theorem adg (k:ar E.tt x=Y d) (m:a7 d r=bp) (t:o.op=.store x h c) (u:a.eval h=.pointer (Y ⟨i,b,bo⟩)) (q:(a.eval c).cells=g.toArray) (s:g.length=r.size) (j:∀c∈g,c.oneCell'=bp) (f:iE w i b (b+r.size)):(bL a.eval o).run E.P w=.ok .skip (w.setCells i b g):=by have p:=(E.ok x d k).lay m;have n:=run_storeCells_cells (P:=E.P) i b g 0 w (λe l=>by simpa using(f (b+e) aa aa).1) (λe l=>by simpa using(f (b+e) aa aa).2) j;simp only[nc] at n;have:(storeVar x ⟨i,b,bo⟩ (a.eval c)).run E.P w=.ok () (w.setCells i b g):=(by simp only[storeVar,q,bY,p.sizeOf,b1];grind);simp_all [bL,Instr.storeAt,ajp]
theorem adf (c2:o.op=.store x h c) (bl:o.dst=bo) (b:(Fj E.tt st x (aT st.g h) (aT st.g c)).K Q):eZ E C o st Q:=by
 rintro a w ⟨I,rt,fp,f⟩ next ap c1
 have i:=f.aT c;unfold Fj at b;split at b
 ·exact b.elim
 rename_i id fs ds;split at b
 case h_2=>exact b.elim
 rename_i f4 f3 am q S;split at b
 ·exact b.elim
 rename_i u d2;cases v:a7 am u with
 |false=>rw[v] at b;exact b.elim
 |true=>
 rw[v] at b;simp only[bG] at b;obtain⟨O,L,d9,d3,z⟩:=abe f ds q d2;have G:=(E.ok x am S).lay v;have F:∀(k:ahS) (M:aO) (e:X->ahS) (d:X->ahY),(a.eval c).cells=k.toArray->k.length=u.size->(∀c∈k,c.oneCell'=bp)->iE w O L (L+u.size)->cM C M a.tmps (w.setCells O L k) I e d->Q M->o.wp E.P a w next ap:=by
  intro k M e d aq B a0 a3 d1 d0;unfold aic;rw[adg S v c2 d3 aq B a0 a3];show next (a.put o.dst bW) _
  rw[bl];exact c1 _ _ _ d0 bn ⟨I,e,d,d1⟩
 split at b
 ·rename_i j V D;split at b
  case h_2=>exact b.elim
  rename_i f5 f0 A;cases T:bH id j with
  |true=>rw[T] at b;exact b.elim
  |false=>
   rw[T] at b;obtain⟨⟨N,an⟩,⟨ce,p⟩,b⟩:=b;have ex:id≠j:=λR=>(by simp_all);rw[D] at i;generalize J:a.eval c=d7 at i;cases i with|ref r H=>
   rw[A] at r;cases r;obtain⟨t,ad,ft⟩:=f.tree j _ A;obtain⟨fn,ek,f2,fz,d5,s,_,U,_⟩:=DQ V (τ':=u) (y:=N) t (loc:=bo) (λ_ _ b=>by cases b) ad (λ_ _ b=>by cases b) (f.notM A) ce;obtain⟨rfl,rfl,rfl⟩:=H.lB d5;have cv:f2.Nodup:=(jR.1 (U.nodup_iff.1 ad)).1;obtain⟨n,e,d,m⟩:=f.store q z p s cv (S2:=[j]) (by grind) (λav a4=>.inr ⟨j,ac,_,A,U.mem_iff.2 (by grind)⟩);exact F _ _ e d (by rw[J];exact ow G s.len s.one) s.len s.one n m b
 ·rename_i j V d8 f1 d6 D;split at b
  case isFalse=>exact b.elim
  rename_i R;subst R;obtain⟨⟨fT,an⟩,⟨rfl,rfl,bs,p⟩,b⟩:=b;rw[D] at i;generalize J:a.eval c=d7 at i;cases i with|app r co H bx el em l dl fl cs=>
  rw[q] at r;cases r;obtain rfl:=eN.uniq bs bx;obtain⟨_,aq,B⟩:=z.lB H;subst aq;subst B;have eq:(ah.osl d8).kF=bp:=co;obtain⟨n,e,d,m⟩:=f.store q z p l cs (S2:=d6) (λci=>(dl _ ci).1 bn) (λav a4=>by
   grind)
  exact F _ _ e d (by rw[J];have:=ow G l.len l.one;exact this) l.len l.one n m b
 split at b
 case h_2=>exact b.elim
 rename_i N d4;obtain⟨an,p,b⟩:=b;have t:=GC G i d4;obtain⟨n,e,d,m⟩:=f.store q z p t ac (S2:=[]) ac ac;exact F _ _ e d ac t.len t.one n m b
end
end
section
theorem DP (a:bm (bm N)) (c b:X):((a.take b).drop c).flatten.Sublist a.flatten:=by have d:a.flatten=((a.take b).take c).flatten++((a.take b).drop c).flatten++(a.drop b).flatten:=(by grind [List.flatten_append,ajw]);grind
section
variable {E:fB} {C:eX} {st:aO} {a:Act} {A:ahQ} {w:bD} {I:X->Prop} {rt:X->ahS} {fp:X->ahY} {o:bR} {Q:aO->Prop}
def BB (c:bm (X×ah)) (st:aO) (a:X) (i:ak):v8:=
 match i with
 |.ref id []=>match ar st.h id with
  |some b=>.e4 ⟨(a,.ref a [])::kill [id,a] [] st.g,(a,b)::del [id,a] st.h⟩
  |none=>.bad
 |.ref id f=>bif bH id a then .bad else .e4 ⟨(a,.ref id f)::kill [a] [] st.g,del [a] st.h⟩
 |.view id [] e d=>match ar st.h id with
  |some ⟨.osl b,j⟩=>.e4 ⟨(a,.ref a [])::kill [id,a] [] st.g,(a,⟨.osl b,(j.take d).drop e⟩)::del [id,a] st.h⟩
  |_=>.bad
 |.dg (.slice bo 0 0)=>match ar c a with
  |some (.osl b)=>.e4 ⟨(a,.ref a [])::kill [a] [] st.g,(a,⟨.osl b,[]⟩)::del [a] st.h⟩
  |_=>.bad
 |_=>.bad
theorem ni.one {w':bD} {I':X->Prop} {S:ahY} {d:X} {t:aF} {cs:ahS} {f:ahY} (x:d∈S\/ar st.h d=bo) (j:w.heap.size<=w'.heap.size) (k:w'.os=w.os) (l:w'.tape=w.tape) (m:w'.output=w.output) (n:∀a,a<w.heap.size->(∀id∈S,∀t,ar st.h id=Y t->a∉fp id)->w'.heap[a]?=w.heap[a]?) (q:∀a,a<w.heap.size->iS w' a=iS w a) (o:∀a,I a->I' a) (p:∀a,I' a->I a\/(a<w'.heap.size/\(w.heap.size<=a\/∃id∈S,∃t,ar st.h id=Y t/\a∈fp id))) (A:aR (bb I' C.B) w' t.1 cs t.2 f) (y:f.Nodup) (g:∀a∈f,¬I' a/\a<w'.heap.size/\(w.heap.size<=a\/∃i∈S,∃u,ar st.h i=Y u/\a∈fp i)):ni C st w w' I I' rt fp S [] [(d,t)] (λ_=>cs) (λ_=>f):=by
 refine⟨j,k,l,m,n,λa g=>.of_eq (q a g),o,p,?_,?_,(λid r=>by grind),(λid r=>by grind)⟩
 ·intro s v e;rw[dh] at e;split at e
  ·grind
  cases e
 intro s D v E b c z;rw[dh] at b c;split at b
 ·split at c
  ·omega
  cases c
 cases b
theorem eZ.SV (d6:o.op=.assign c) (d2:o.dst=Y b) (ad:C.ok b) (e:(BB l st b (aT st.g c)).K Q):eZ E C o st Q:=by
 rintro a w ⟨I,rt,fp,s⟩ next U d5
 have n:=s.aT c;have an:(bL a.eval o).run E.P w=.ok (.value (a.eval c)) w:=(by simp[bL,d6]);have H:∀(T:aO) (rtn:X->ahS) (fpn:X->ahY),cM C T (a.tmps.setIfInBounds b (a.eval c)) w I rtn fpn->Q T->o.wp E.P a w next U:=by
  intro T rtn fpn x M;unfold aic;rw[an];show next (a.put o.dst (a.eval c)) w
  rw[d2];exact d5 _ _ _ M bn ⟨I,rtn,fpn,x⟩
 have z:∀(S:ahY) (i:aF) (A:ahS) (p:ahY),b∈S->aR (bb I C.B) w i.1 A i.2 p->p.Nodup->(∀k∈p,∃a3∈S,∃el,ar st.h a3=Y el/\k∈fp a3)->a.eval c=cX i.1 A->Q ⟨(b,.ref b [])::kill S [] st.g,(b,i)::del S st.h⟩->o.wp E.P a w next U:=by
  intro S i A p d3 x D u d7 M;have v:=s.eB (ni.one (st:=st) (C:=C) (rt:=rt) (w':=w) (I':=I) (S:=S) (d:=b) (t:=i) (cs:=A) (f:=p) (.inl d3) (bc _) rfl rfl rfl (λ_ _ _=>rfl) (λ_ _=>rfl) (λ_ e=>e) (λ_ e=>.inl e) x D (λk ds=>by
   obtain⟨F,q,em,v,d0⟩:=u k ds;obtain⟨aw,d9,a4,bl⟩:=(s.tree F em v).2.2 k d0;grind))
  refine H _ _ _ (v.put ad (av:=.ref b []) ?_) M;rw[d7];refine .ref (t:=i) (loc:=bo) (by rw[kC,dh,au bn];rfl) ?_;rw[En];exact aX.here
 unfold BB at e;split at e
 ·rename_i id m;split at e
  case h_2=>exact e.elim
  rename_i i y;rw[m] at n;obtain⟨R,bs,ek⟩:=s.tree id i y;refine z [id,b] i (rt id) (fp id) ac R bs (λk u=>⟨id,ac,i,y,u⟩) ?_ e;generalize ap:a.eval c=bx at n;cases n with|ref N am=>
  grind [aX.gw]
 ·rename_i id O _ m;cases u:bH id b with
  |true=>rw[u] at e;exact e.elim
  |false=>
   rw[u] at e;have f4:id≠b:=λfz=>(by simp_all);have v:=s.eB (S:=[b]) (keep:=[]) (new:=[]) (rtn:=rt) (fpn:=fp) (w':=w) (I':=I) ⟨bc _,bn,bn,bn,λ_ _ _=>rfl,λ_ _=>.refl _ _,λ_ e=>e,λ_ e=>.inl e,(λ_ _ e=>by cases e),(λ_ _ _ _ e=>by cases e),(λ_ e=>by cases e),(λ_ e=>by cases e)⟩;refine H _ _ _ (v.put ad (av:=.ref id O) ?_) e;have:=v.aT (a:=a) c;have fT:aT (kill [b] [] st.g) c=.ref id O:=by
    cases c with
    |tmp i=>
     show gt (kill [b] [] st.g) i=_;rw[p2,show gt st.g i=.ref id O from m];grind [ha,fI,fc,ak.fo,ak.ids,eP,absurd]
    |const eq=>exact absurd m (by cases eq<;>simp[aT])
    |global f0=>cases m
    |func p=>cases m
   grind
 ·rename_i id j q m;split at e
  case h_2=>exact e.elim
  rename_i i ce y;rw[m] at n;obtain⟨R,bs,ek⟩:=s.tree id _ y;generalize ap:a.eval c=bx at n z H an;cases n with|me=>(exact z [id,b] ⟨.osl i,[]⟩ [.slice bo 0 0] [] ac ⟨bo,0,bn,.inl ⟨bn,bn,bn,bn⟩⟩ ac ac bn e)|view N am f5 f6 f7=>
  rename_i k G f8 r;rw[y] at N;cases N;obtain⟨aq,_,c1⟩:=aX.gw.1 am;cases aq;obtain⟨fl,fs,L,x⟩:=R;rw[c1] at L;simp only[hL,ah7,b9] at L;obtain⟨rfl,rfl,rfl⟩:=L;rcases x with⟨J,_⟩|⟨fn,f9,V,J,f2,aw,d9,a4,bl⟩
  ·cases J
  cases J;have d4:((ce.take q).drop j).length=q-j:=(by grind);refine z [id,b] ⟨.osl i,(ce.take q).drop j⟩ [.slice (Y ⟨k,if r=j then G else G+j*i.size,bo⟩) (q-j) (r-j)] (k::((V.take q).drop j).flatten) ac ?_ ?_ ?_ bn e
  ·refine⟨Y ⟨k,if r=j then G else G+j*i.size,bo⟩,r-j,by rw[d4],.inr ⟨k,_,(V.take q).drop j,bn,bn,by grind,by grind,?_,?_⟩⟩
   ·intro d8 c2 dl;by_cases d1:r=j
    ·grind
    rw[ax d1] at c2 dl;have:j*i.size+(r-j)*i.size=r*i.size:=(by rw[<-lu];grind);exact a4 d8 aa aa
   intro F ex p a0 D;have f3:F<q-j:=(by grind);rw[pA,rZ aa] at a0 D;obtain⟨cv,ci,ft,co⟩:=bl (j+F) ex p a0 D;refine⟨cv,ci,?_,co⟩;grind
  ·grind [List.nodup_cons,DP]
  grind [DP,akk]
 ·rename_i m;split at e
  case h_2=>exact e.elim
  rename_i i f1;rw[m] at n;refine z [b] ⟨.osl i,[]⟩ [.slice bo 0 0] [] ac ⟨bo,0,bn,.inl ⟨bn,bn,bn,bn⟩⟩ ac ac ?_ e;generalize ap:a.eval c=bx at n;cases n;rfl
 exact e.elim
end
end
section
inductive l0 (σ:ah) where
 |e4 (ys:bm σ.den)
 |part (α:Type) (φ:α->Prop) (f:α->bm σ.den)
 |bad
def rQ (g:bm (X×aF)) (b:ah) (k:ak):l0 b:=
 match k with
 |.val (.a2 _ j) a=>if e:j=b then .e4 (e▸a) else .bad
 |.dg (.slice bo 0 0)=>.e4 []
 |.ref id c=>match ar g id with
  |some ⟨f,d⟩=>bif b.pure then .part (bm b.den) (λa=>eN f d c (.osl b) a) (λa=>a) else .bad
  |none=>.bad
 |.view id c i h=>match ar g id with
  |some ⟨f,d⟩=>bif b.pure then .part (bm b.den) (λa=>eN f d c (.osl b) a) (λa=>(a.take h).drop i) else .bad
  |none=>.bad
 |_=>.bad
def l0.to {f:ah} (g:l0 f) (c:X->Prop) (b:bm f.den->aO):v8:=
 match g with
 |.e4 e=>.part bt (λ_=>c e.length) (λ_=>b e)
 |.part h i d=>.part h (λa=>i a/\c (d a).length) (λa=>b (d a))
 |.bad=>.bad
def Bz (
 tt:bm (bF×ah)) (t:bm (X×ah)) (st:aO) (a:X) (s:bF) (j k:ak):v8:=
 match gX tt s with
 |none=>.bad
 |some o=>match j with
  |.ref id []=>match ar st.h id with
   |some ⟨.osl b,d⟩=>bif a7 o b&&b2 b.size 1300 then
    match b.pure,k with
    |false,.ref n []=>match ar st.h n with
     |some ⟨.osl v,c⟩=>if e:v=b then bif bH id n then .bad else .part bt (λ_=>d.length+c.length<=hB) (λ_=>⟨(a,.ref a [])::kill [id,n,a] [] st.g,(a,⟨.osl b,d++(e▸c)⟩)::del [id,n,a] st.h⟩) else .bad
     |_=>.bad
    |_,k=>(rQ st.h b k).to (λl=>d.length+l<=hB) (λc=>⟨(a,.ref a [])::kill [id,a] [] st.g,(a,⟨.osl b,d++c⟩)::del [id,a] st.h⟩)
    else .bad
   |_=>.bad
  |.ref id f=>match ar st.h id,ar st.h a with
   |some ⟨m,j⟩,bo=>match fm m f with
    |some (.osl b)=>bif a7 o b&&b2 b.size 1300&&b.kF then
     match rQ st.h b k with
     |.e4 c=>.part (bm b.den) (λd=>eN m j f (.osl b) d/\d.length+c.length<=hB) (λ_=>⟨(a,.app id f b c [a])::kill [id] [(id,f),(id,[])] st.g,(a,⟨.eL,()⟩)::(id,⟨m,j⟩)::del [id] st.h⟩)
     |.part u w p=>.part (bm b.den×u) (λi=>eN m j f (.osl b) i.1/\w i.2/\i.1.length+(p i.2).length<=hB) (λi=>⟨(a,.app id f b (p i.2) [a])::kill [id] [(id,f),(id,[])] st.g,(a,⟨.eL,()⟩)::(id,⟨m,j⟩)::del [id] st.h⟩)
     |.bad=>.bad
     else .bad
    |_=>.bad
   |_,_=>.bad
  |.view id [] r q=>match ar st.h id with
   |some ⟨.osl b,d⟩=>bif a7 o b&&b2 b.size 1300 then
    (rQ st.h b k).to (λl=>((d.take q).drop r).length+l<=hB) (λc=>⟨(a,.ref a [])::kill [id,a] [] st.g,(a,⟨.osl b,(d.take q).drop r++c⟩)::del [id,a] st.h⟩)
    else .bad
   |_=>.bad
  |.dg (.slice bo 0 0)=>match ar t a with
   |some (.osl b)=>bif a7 o b&&b2 b.size 1300 then
    (rQ st.h b k).to (λl=>l<=hB) (λc=>⟨(a,.ref a [])::kill [a] [] st.g,(a,⟨.osl b,c⟩)::del [a] st.h⟩)
    else .bad
   |_=>.bad
  |_=>.bad
section
variable {E:fB} {C:eX} {st:aO} {a:Act} {A:ahQ} {w:bD} {I:X->Prop} {rt:X->ahS} {fp:X->ahY} {o:bR} {Q:aO->Prop}
def yA (I:X->Prop) (e:X->Prop) (w:bD) (d:ah) (g:Value) (c:bm d.den):Prop:=
 ∃b f a,g=.slice b c.length f/\kn (bb I e) w d b c a/\a.flatten=[]
def Hz {b:ev} (c:∀a∈b,a=[]):b.flatten=[]:=by
 induction b with
 |nil=>rfl
 |cons f g e=>rw[lW,c f ac,e (λa d=>c a (hY _ d))];rfl
theorem kn.pure {f:eC->X->Prop} {e:ah} {g:bv Addr} {d:bm e.den} {c:ev} (i:e.pure=bp) (a:kn f w e g d c):c.flatten=[]:=by
 refine Hz (λm h=>?_);obtain⟨q,a⟩:=a;obtain⟨b,n,rfl⟩:=ht.1 h;rcases a with rfl|⟨k,o,_,a⟩
 ·grind
 have p:b<d.length:=aa;obtain⟨l,_,_,j⟩:=a b d[b] c[b] ac ac;exact j.pure i
def l0.holds {c:ah} (e:l0 c) (b:bm c.den):Prop:=
 match e with
 |.e4 f=>b=f
 |.part g h d=>∃a:g,h a/\b=d a
 |.bad=>b6
def l0.Fr {f:l0 d} {g:bm d.den->aO} (b:(f.to j g).K Q):∃a,f.holds a/\j a.length/\Q (g a):=by
 unfold l0.to at b;cases f with
 |e4 a=>obtain⟨_,c,e⟩:=b;exact⟨a,bn,c,e⟩
 |part l m k=>obtain⟨h,⟨c,e⟩,i⟩:=b;exact⟨k h,⟨h,c,bn⟩,e,i⟩
 |bad=>exact b.elim
theorem vH (x:cM C st a.tmps w I rt fp) {s:bm d.den} (b:(rQ st.h d (aT st.g c)).holds s):yA I C.B w d (a.eval c) s:=by
 have f:=x.aT c;unfold rQ at b;generalize V:a.eval c=bl at f;split at b
 ·rename_i av a4 q j;split at b
  case isFalse=>exact b.elim
  rename_i n;subst n;obtain rfl:s=q:=b;rw[j] at f;cases f with|val E=>
  have N:=E;obtain⟨_,t,m,rfl,_⟩:=N;obtain⟨_,e⟩:=kn.a2 E;exact⟨t,m,_,bn,e,ac⟩
 ·rename_i j;obtain rfl:s=[]:=b;rw[j] at f;cases f;exact⟨bo,0,[],bn,⟨bn,.inl bn⟩,bn⟩
 ·rename_i id M j;split at b
  case h_2=>exact b.elim
  rename_i P O o;cases k:d.pure with
  |false=>rw[k] at b;exact b.elim
  |true=>
   rw[k] at b;obtain⟨q,y,rfl⟩:=b;rw[j] at f;cases f with|ref p z=>
   rw[o] at p;cases p;obtain⟨rfl,u,r,_⟩:=x.k0 o y z;have L:=r;obtain⟨t,m,rfl,_⟩:=L;obtain⟨_,_,v,e,_⟩:=kn.osl r;exact⟨t,m,v,bn,e,e.pure k⟩
 ·rename_i id M i l j;split at b
  case h_2=>exact b.elim
  rename_i P O o;cases k:d.pure with
  |false=>rw[k] at b;exact b.elim
  |true=>
   rw[k] at b;obtain⟨q,y,rfl⟩:=b;rw[j] at f;cases f with|me=>(exact⟨bo,0,[],bn,⟨bn,.inl bn⟩,bn⟩)|view p z ad am an=>
   rename_i F a3 ap m;rw[o] at p;cases p;obtain⟨n,u,r,_⟩:=x.k0 o y z;cases n;obtain⟨aq,_,v,e,_⟩:=kn.osl r;have K:((q.take l).drop i).length=l-i:=(by grind);show yA I C.B w d _ ((q.take l).drop i);refine⟨_,m-i,(v.take l).drop i,by rw[K],⟨by simp[e.1],?_⟩,?_⟩
   ·obtain⟨T,e⟩:=e;by_cases U:l=i
    ·grind
    right;rcases e with rfl|⟨Q,a0,n,e⟩
    ·grind
    cases n;refine⟨F,_,bn,λD c u f A=>?_⟩;have S:D<l-i:=(by grind);rw[pA,rZ aa] at f A;obtain⟨J,G,R,H⟩:=e (i+D) c u f A;refine⟨J,G,?_,H⟩;grind
   have:=e.pure k;grind [DP]
 exact b.elim
theorem aeh {c f l a:X} {m:bm d.den} (p:aR e w (.osl d) [.slice (Y ⟨c,f,bo⟩) l i] m k) (B:k.Nodup) (D:b<=a) (E:a<=l) (F:l<=i):∃h,aR e w (.osl d) [.slice (Y ⟨c,if i=b then f else f+b*d.size,bo⟩) (a-b) (i-b)] ((m.take a).drop b) h/\h.Nodup/\∀o∈h,o∈k:=by
 obtain⟨y,A,n,u⟩:=p;simp only[hL,ah7,b9] at n;obtain⟨rfl,rfl,rfl⟩:=n;rcases u with⟨j,_⟩|⟨z,G,g,j,rfl,aw,H,x,I⟩
 ·cases j
 cases j;have t:((m.take a).drop b).length=a-b:=(by grind);have C:((g.take a).drop b).flatten.Sublist g.flatten:=DP _ _ _;refine⟨c::((g.take a).drop b).flatten,⟨Y ⟨c,if i=b then f else f+b*d.size,bo⟩,i-b,by rw[t],.inr ⟨c,_,(g.take a).drop b,bn,bn,by grind,aa,?_,?_⟩⟩,?_,?_⟩
 ·intro v q r;by_cases s:i=b
  ·grind
  rw[ax s] at q r;have:b*d.size+(i-b)*d.size=i*d.size:=(by rw[<-lu];grind);exact x v aa aa
 ·grind
 ·grind
 grind
def Lb (b:o.op=.call {callee:=.builtin .append,args:=#[c,h],argTypes:=#[x,x]}) (d:(ajU #[x,x] o.type #[a.eval c,a.eval h]).run E.P w=.ok R f):(bL a.eval o).run E.P w=.ok (.value R) f:=by simp only[bL,b,aiG,invoke,aiW,bY,cw,b1,akw,ie,ajb,d]
theorem eZ.yE {K L:bM} (c1:o.op=.call {callee:=.builtin .append,args:=#[K,L],argTypes:=#[x,x]}) (ap:o.dst=Y b) (a4:C.ok b) (p:cM C st a.tmps w I rt fp) {next:Act->bD->Prop} {N:b5->Act->bD->Prop} (cv:∀H z m,Q H->z.defers=a.defers->gJ C H z.tmps m->next z m) {J:ah} (ad:gX E.tt x=Y J) (ce:a7 J r=bp) (d0:r.size<=1300) {S:ahY} (a0:b∈S) {G A:X} {xs q:bm r.den} {f1:ahY} {v:ev} {M:bv Addr} (fz:a.eval K=.slice s G A) (ds:aR (bb I C.B) w (.osl r) [.slice s G A] xs f1) (bs:f1.Nodup) (fl:∀e∈f1,∃j∈S,∃k,ar st.h j=Y k/\e∈fp j) (fT:a.eval L=.slice M q.length i) (bl:kn (bb I C.B) w r M q v) (bx:v.flatten.Nodup) (fn:∀e∈v.flatten,∃j∈S,∃k,ar st.h j=Y k/\e∈fp j) (a3:∀e∈f1,e∉v.flatten) (ci:xs.length+q.length<=hB) (c2:Q ⟨(b,.ref b [])::kill S [] st.g,(b,⟨.osl r,xs++q⟩)::del S st.h⟩):o.wp E.P a w next N:=by
 obtain⟨j,el,em,T,U⟩:=gX.ok ad;have D:=U.lay ce;obtain⟨f0,_,d2,_⟩:=D.info;have ft:∀j k,ar st.h j=Y k->∀e∈fp j,e<w.heap.size/\∀F,¬bb I C.B F e:=λj k y e l=>⟨((p.tree j k y).2.2 e l).2.2.1,p.notM y e l⟩;obtain⟨u,m,f2,f6,d4,_,aJ,d5,d6,d7,d8,d9,d3,f7,_,ek⟩:=Lc (P:=E.P) (ty:=o.type) T D d2.info d0 ds (c:=i) bl bs (λe l=>by grind) bx a3 (λF e co=>p.ib e (mX co)) (λe l=>by grind) (λe l=>by grind) ci;have dl:(bL a.eval o).run E.P w=.ok (.value u) m:=Lb (E:=E) c1 (by grind);have an:∀e∈f2,(∃j∈S,∃k,ar st.h j=Y k/\e∈fp j)\/(w.heap.size<=e/\e<m.heap.size):=λe l=>by
  rcases d5 e l with n|n|n
  ·grind
  ·grind
  omega
 have d1:=p.eB (ni.one (st:=st) (C:=C) (rt:=rt) (w':=m) (I':=I) (S:=S) (d:=b) (t:=⟨.osl r,xs++q⟩) (cs:=[u]) (f:=f2) (.inl a0) d6 d7 d8 d9 (λe l eq=>d3 e l (λex=>by grind)) ek (λ_ n=>n) (λ_ n=>.inl n) d4 aJ (λe l=>by
   rcases an e l with⟨j,fs,k,y,am⟩|⟨O,R⟩
   ·obtain⟨aw,f3,f4,f5⟩:=(p.tree j k y).2.2 e am;grind
   exact⟨λV=>by have:=p.ib e (.inl V);omega,R,.inl O⟩))
 unfold aic;rw[dl];show next (a.put o.dst u) m
 rw[ap];refine cv _ _ _ c2 bn ⟨I,_,_,d1.put a4 (av:=.ref b []) ?_⟩;have:u=cX (.osl r) [u]:=rfl;rw[this];refine .ref (t:=⟨.osl r,xs++q⟩) (loc:=bo) (by rw[kC,dh,au bn];rfl) ?_;rw[En];exact aX.here
end
end
section
section
variable {E:fB} {C:eX} {st:aO} {a:Act} {A:ahQ} {w:bD} {I:X->Prop} {rt:X->ahS} {fp:X->ahY} {o:bR} {Q:aO->Prop}
theorem Le {a0 f0:bM} (i8:o.op=.call {callee:=.builtin .append,args:=#[a0,f0],argTypes:=#[x,x]}) (ce:o.dst=Y b) (hr:C.ok b) (p:cM C st a.tmps w I rt fp) {next:Act->bD->Prop} {f1:b5->Act->bD->Prop} (i3:∀fz a3 w',Q fz->a3.defers=a.defers->gJ C fz a3.tmps w'->next a3 w') {ap:ah} (gl:gX E.tt x=Y ap) (io:a7 ap r=bp) (kg:r.size<=1300) (dl:r.kF=bp) {id:X} (hs:aT st.g a0=.ref id n) {m:d.den} (u:ar st.h id=Y ⟨d,m⟩) (hi:ar st.h b=bo) {y O:bm r.den} (cs:eN d m n (.osl r) y) {S2:ahY} (le:∃d1 G A,a.eval f0=.slice d1 O.length G/\kn (bb I C.B) w r d1 O A/\A.flatten.Nodup/\∀e∈A.flatten,∃f∈S2,∃z,ar st.h f=Y z/\e∈fp f) (bx:∀f∈S2,f≠id/\∃ap,ar st.h f=Y ap) (is:y.length+O.length<=hB) (el:Q ⟨(b,.app id n r O (b::S2))::kill [id] [(id,n),(id,[])] st.g,(b,⟨.eL,()⟩)::(id,⟨d,m⟩)::del [id] st.h⟩):o.wp E.P a w next f1:=by
 obtain⟨f,pm,bs,gc,ge⟩:=gX.ok gl;have d4:=ge.lay io;obtain⟨rs,_,mp,_⟩:=d4.info;have ds:=p.aT a0;rw[hs] at ds;generalize lc:a.eval a0=tl at ds;cases ds with|ref q c2=>
 rename_i t0 d2 f3;rw[u] at q;cases q;simp only at c2;obtain⟨mt,fn,mz⟩:=p.tree id _ u;obtain⟨s0,ps,H,d0,f6,d3,f7,R,rg,f8,f9⟩:=zU n (loc:=bo) mt (λ_ _ j=>by cases j) fn (λ_ _ j=>by cases j) (p.notM u) cs;obtain⟨f4,aq,f5⟩:=c2.lB f6;subst f4;subst aq;subst f5;have ek:=R.nodup_iff.1 fn;rw[jR] at ek;obtain⟨i0,d9,i1⟩:=ek;obtain⟨a4,bl,rfl,_⟩:=(show aR (bb I C.B) w (.osl r) f3 y H from d3);obtain⟨d1,G,A,lk,hv,ic,co⟩:=le;have V:∀e∈H,e∈fp id:=λe i=>R.mem_iff.2 (by grind);have c1:∀e∈fp id,e<w.heap.size/\∀M,¬bb I C.B M e:=λe i=>⟨(mz e i).2.2.1,p.notM u e i⟩;have lf:∀e∈A.flatten,e<w.heap.size:=λe i=>(by obtain⟨f,l,z,ad,T⟩:=co e i;exact((p.tree f z ad).2.2 e T).2.2.1);obtain⟨fT,w',f2,ne,nn,ft,no,nx,n7,of,ol,on,fs,ti,_,or⟩:=Lc (P:=E.P) (ty:=o.type) gc d4 mp.info kg d3 (c:=G) hv i0 (λe i=>(c1 e (V e i)).2) ic (λe i gt=>by
  obtain⟨f,l,z,ad,T⟩:=co e gt;exact p.dis id f _ z u ad (bx f l).1.symm e (V e i) T)
  (λM e d8=>p.ib e (mX d8)) (λe i=>(c1 e (V e i)).1) lf is
 have kd:(bL a.eval o).run E.P w=.ok (.value fT) w':=Lb (E:=E) i8 (by rw[lc,lk];exact ne);have em:∀e∈d0,e<w.heap.size/\e∉H:=λe i=>⟨(c1 e (R.mem_iff.2 (by grind))).1,λj=>i1 e j e i bn⟩;have eq:∀e,(∃M,bb I C.B M e)\/e∈d0->c5 w w' e:=λe i=>by
  rcases i with⟨M,d8⟩|i
  ·grind
  exact .of_heap (fs e (em e i).1 (em e i).2)
 have go:∀e N,d2=Y (e,N)->fr w' e N [.slice a4 y.length bl]:=λe N k=>(by have i:e∈d0:=(by grind);exact(f7 e N k).1.sm (eq e (.inr i)));obtain⟨pv,J,sz,_,ll,_,lo,lt⟩:=f8 w' (bb I C.B) [.slice a4 y.length bl] y H m (λ_ _ j=>j) (λe i=>by
  have U:c5 w w' e:=eq e (by
   rcases i with j|j|⟨N,j⟩
   ·grind
   ·grind
   grind)
  exact⟨λv _=>(U.1 v).1,λv=>(U.1 v).2,λv=>by rw[(U.1 v).1],U.2⟩) ft (λ_ _=>rfl) go (fa.same cs)
 obtain rfl:=ll bn (.inr bn);have rl:J.Perm (fp id):=lo.trans R.symm;have s:b≠id:=λk=>(by grind);have d6:∀e∈f2,e∈H\/e∈A.flatten\/(w.heap.size<=e/\e<w'.heap.size):=λe i=>nx e i
 let K:=f2.filter λe=>br (w.heap.size<=e)
 have hw:∀e∈K,w.heap.size<=e/\e<w'.heap.size:=λe i=>by
  have gs:=hq.1 i;have bs:w.heap.size<=e:=(by grind);rcases d6 e gs.1 with j|j|j
  ·grind
  ·grind
  omega
 have lb:=p.eB (S:=[id]) (keep:=[(id,n),(id,[])]) (new:=[(b,⟨.eL,()⟩),(id,⟨d,m⟩)]) (rtn:=λf=>if f=b then[] else rt id) (fpn:=λf=>if f=b then K else J) (w':=w') (I':=I) ⟨n7,of,ol,on,λe i gi=>fs e i (λj=>gi id ac _ u (V e j)),λe i=>.of_eq (or e i),λ_ j=>j,λ_ j=>.inl j,(by
   intro f F l;rw[dh] at l;split at l
   ·rename_i k;subst k;cases l;refine⟨.inr hi,(by simp only[cf];exact bn),(by grind),λe i=>?_⟩;simp only[cf] at i;obtain⟨aw,an⟩:=hw e i;exact⟨λgf=>by have:=p.ib e (.inl gf);omega,an,.inl aw⟩
   ·rw[dh] at l;split at l
    ·rename_i _ k;subst k;grind
    cases l),(by
   intro f v os oN l ii ro e i;have d5:∀am F,ar [(b,(⟨.eL,()⟩:aF)),(id,⟨d,m⟩)] am=Y F->am=b\/am=id:=λam F D=>by
    rw[dh] at D;split at D
    ·omega
    rw[dh] at D;split at D
    ·omega
    cases D
   have L:¬(id=b):=λk=>s k.symm;rcases d5 f os l with rfl|rfl<;>rcases d5 v oN ii with rfl|rfl
   ·omega
   ·grind
   ·grind
   omega),(by
   intro f l F q;have cv:f=(id,n)\/f=(id,[]):=(by grind);have bs:f.1=id:=(by grind);have q:ar st.h id=Y F:=(by grind);rw[u] at q;obtain rfl:=gC q;have L:¬(id=b):=λk=>s k.symm;refine⟨⟨d,m⟩,by rw[bs,dh,ax s,dh,au bn],bn,by grind,(by rcases cv with rfl|rfl;exact⟨_,c2.ty⟩;exact⟨d,by cases d<;>rfl⟩),λfl _ _ _ D el=>?_⟩;grind [D9]),(by
   intro f l F q fl t1 to mc pr ra ce dl d9 d7 jp;have cv:f=(id,n)\/f=(id,[]):=(by grind);rcases cv with rfl|rfl
   ·rw[u] at q;obtain rfl:=gC q;have L:¬(id=b):=λk=>s k.symm;refine⟨⟨d,m⟩,by rw[dh,ax s,dh,au bn],d7,λG hc=>?_⟩;obtain⟨aw,an⟩:=f9 fl _ _ _ _ _ ce (by exact dl) d7 d9 jp G hc;grind
   grind [uK])⟩
 unfold aic;rw[kd];show next (a.put o.dst fT) w'
 rw[ce];refine i3 _ _ _ el bn ⟨I,_,_,lb.put hr (av:=.app id n r O (b::S2)) ?_⟩;have L:¬(id=b):=λk=>s k.symm;have l2:ar ([(b,(⟨.eL,()⟩:aF)),(id,⟨d,m⟩)]++del [id] st.h) id=Y ⟨d,m⟩:=(by rw[kC,dh,ax s,dh,au bn];rfl);have mc:ar ([(b,(⟨.eL,()⟩:aF)),(id,⟨d,m⟩)]++del [id] st.h) b=Y ⟨.eL,()⟩:=(by rw[kC,dh,au bn];rfl);have ex:ar [(b,(⟨.eL,()⟩:aF)),(id,⟨d,m⟩)] id=Y ⟨d,m⟩:=(by rw[dh,ax s,dh,au bn]);have mo:ar [(b,(⟨.eL,()⟩:aF)),(id,⟨d,m⟩)] b=Y ⟨.eL,()⟩:=(by rw[dh,au bn]);have rd:fi [(b,(⟨.eL,()⟩:aF)),(id,⟨d,m⟩)] (λf=>if f=b then K else J) fp id=J:=(by simp only[fi,ex,ax L]);have rb:fi [(b,(⟨.eL,()⟩:aF)),(id,⟨d,m⟩)] (λf=>if f=b then K else J) fp b=K:=(by simp only[fi,mo,cf]);have nd:fi [(b,(⟨.eL,()⟩:aF)),(id,⟨d,m⟩)] (λf=>if f=b then[] else rt id) rt id=rt id:=(by simp only[fi,ex,ax L]);have i2:aX w' d bo (rt id) n (.osl r) d2 [.slice a4 y.length bl]:=lt.1;refine .app (t:=⟨d,m⟩) l2 dl (by rw[nd];exact i2) cs ft (λe i=>by grind) nn ?_ ?_ no
 ·intro f l;rcases fV.1 l with rfl|l
  ·grind
  obtain⟨aw,pl,an⟩:=bx f l;have ci:¬(b=f):=λk=>(by grind);refine⟨aw,pl,?_⟩;rw[kC,dh,ax ci,dh,ax (λk=>aw k.symm),mW,ax (by grind),an];rfl
 intro e i;rcases d6 e i with j|j|j
 ·grind
 ·obtain⟨f,l,z,ad,T⟩:=co e j;obtain⟨aw,_⟩:=bx f l;have ci:¬(b=f):=λk=>(by grind);have tf:ar [(b,(⟨.eL,()⟩:aF)),(id,⟨d,m⟩)] f=bo:=(by rw[dh,ax ci,dh,ax (λk=>aw k.symm)];rfl);exact .inr ⟨f,hY _ l,by grind [fi]⟩
 grind
theorem Ld {p:bM} (N:o.op=.call {callee:=.builtin .append,args:=#[c,p],argTypes:=#[x,x]}) (A:o.dst=Y b) (F:C.ok b) (y:cM C st a.tmps w I rt fp) {next:Act->bD->Prop} (M:∀j e l,Q j->e.defers=a.defers->gJ C j e.tmps l->next e l) {k:ah} (z:gX E.tt x=Y k) (J:a7 k d=bp) (R:d.size<=1300) (L:d.kF=bp) {id:X} (G:aT st.g c=.ref id n) {i:r.den} (S:ar st.h id=Y ⟨r,i⟩) (D:ar st.h b=bo) {m f:bm d.den} (H:eN r i n (.osl d) m) (T:yA I C.B w d (a.eval p) f) (K:m.length+f.length<=hB) (O:Q ⟨(b,.app id n d f [b])::kill [id] [(id,n),(id,[])] st.g,(b,⟨.eL,()⟩)::(id,⟨r,i⟩)::del [id] st.h⟩):o.wp E.P a w next t:=by obtain⟨U,q,s,u,v,V⟩:=T;exact Le (S2:=[]) N A F y M z J R L G S D H ⟨U,q,s,u,v,by grind,by grind⟩ ac K O
end
end
section
section
variable {E:fB} {C:eX} {st:aO} {o:bR} {Q:aO->Prop}
theorem eZ.app {d1:bm (X×ah)} {U:bF} {z L:bM} {s:X} (y:o.op=.call {callee:=.builtin .append,args:=#[z,L],argTypes:=#[U,U]}) (v:o.dst=Y s) (w:C.ok s) (a:(Bz E.tt d1 st s U (aT st.g z) (aT st.g L)).K Q):eZ E C o st Q:=by
 rintro A J ⟨F,R,H,c⟩ next fz x
 have q:=c.aT z;unfold Bz at a;split at a
 ·exact a.elim
 rename_i T u;split at a
 ·rename_i id t;split at a
  case h_2=>exact a.elim
  rename_i e l f;cases b:(a7 T e&&b2 e.size 1300) with
  |false=>rw[b] at a;exact a.elim
  |true=>
  rw[b] at a;simp only[cC] at b;obtain⟨j,d⟩:=b;have d:=gT d;simp only[bG] at a;rw[t] at q;generalize D:A.eval z=ds at q;cases q with|ref I ap=>
  rw[f] at I;cases I;obtain⟨aq,_,G⟩:=aX.gw.1 ap;subst aq;subst G;obtain⟨O,P,fl⟩:=c.tree id _ f;obtain⟨a3,ad,f2,_⟩:=(show aR (bb F C.B) J (.osl e) (R id) l (H id) from O);have c1:A.eval z=.slice a3 l.length ad:=(by rw[D];show(R id).headD bW=_;grind);have dl:aR (bb F C.B) J (.osl e) [.slice a3 l.length ad] l (H id):=(by grind);split at a
  ·rename_i k f5 d2;split at a
   case h_2=>exact a.elim
   rename_i d0 r N;split at a
   case isFalse=>exact a.elim
   rename_i bs;subst bs;cases bx:bH id k with
   |true=>rw[bx] at a;exact a.elim
   |false=>
   rw[bx] at a;have d6:id≠k:=λbs=>(by grind [ajT]);obtain⟨_,h,a⟩:=a;have av:=c.aT L;rw[d2] at av;generalize p:A.eval L=gf at av;cases av with|ref cv d5=>
   rw[N] at cv;cases cv;obtain⟨aq,_,G⟩:=aX.gw.1 d5;subst aq;subst G;obtain⟨fn,fs,ge⟩:=c.tree k _ N;obtain⟨a4,bl,f3,_⟩:=(show aR (bb F C.B) J (.osl d0) (R k) r (H k) from fn);have d7:A.eval L=.slice a4 r.length bl:=(by rw[p];show(R k).headD bW=_;grind);have fp:aR (bb F C.B) J (.osl d0) [.slice a4 r.length bl] r (H k):=(by grind);obtain⟨_,_,M,n,ci,d4,_⟩:=kn.osl fp;exact eZ.yE y v w c x u j d (S:=[id,k,s]) ac c1 dl P (λm b=>⟨id,ac,_,f,b⟩) d7 n (d4 fs) (λm b=>⟨k,ac,_,N,ci m b⟩) (λm b d3=>c.dis id k _ _ f N d6 m b (ci m d3)) h a
  obtain⟨r,i,h,a⟩:=l0.Fr a;obtain⟨a0,V,M,p,n,am⟩:=vH c i;exact eZ.yE y v w c x u j d (S:=[id,s]) ac c1 dl P (λm b=>⟨id,ac,_,f,b⟩) p n (by grind) (by grind) (by grind) h a
 ·rename_i id gc f6 t;split at a
  case h_2=>exact a.elim
  rename_i go gi f ce;split at a
  case h_2=>exact a.elim
  rename_i e f7;cases b:(a7 T e&&b2 e.size 1300&&e.kF) with
  |false=>rw[b] at a;exact a.elim
  |true=>
  rw[b] at a;simp only[cC] at b;obtain⟨⟨j,d⟩,cs⟩:=b;have d:=gT d;simp only[bG] at a;split at a
  ·rename_i r i;obtain⟨l,⟨an,h⟩,a⟩:=a;exact Ld y v w c x u j d cs t f ce an (vH c (by rw[i];exact bn)) h a
  ·rename_i gl gs fT i;obtain⟨⟨l,em⟩,⟨an,d8,h⟩,a⟩:=a;exact Ld y v w c x u j d cs t f ce an (vH c (by rw[i];exact⟨em,d8,bn⟩)) h a
  exact a.elim
 ·rename_i id c2 co t;split at a
  case h_2=>exact a.elim
  rename_i e l f;cases b:(a7 T e&&b2 e.size 1300) with
  |false=>rw[b] at a;exact a.elim
  |true=>
  rw[b] at a;simp only[cC] at b;obtain⟨j,d⟩:=b;have d:=gT d;simp only[bG] at a;rw[t] at q;obtain⟨O,P,fl⟩:=c.tree id _ f;generalize D:A.eval z=ds at q;cases q with|me=>(obtain⟨r,i,h,a⟩:=l0.Fr a;obtain⟨a0,V,M,p,n,am⟩:=vH c i;exact eZ.yE y v w c x u j d (S:=[id,s]) ac (xs:=[]) (f1:=[]) D ⟨bo,0,bn,.inl ⟨bn,bn,bn,bn⟩⟩ ac ac p n (by grind) (by grind) ac (by grind) (by grind))|view I ap d9 ek el=>
  rename_i m f9 f8 ad;rw[f] at I;cases I;obtain⟨aq,_,G⟩:=aX.gw.1 ap;cases aq;obtain⟨r,i,h,a⟩:=l0.Fr a;obtain⟨a0,V,M,p,n,am⟩:=vH c i;rw[G] at O;obtain⟨ft,aw,eq,ex⟩:=aeh (show aR (bb F C.B) J (.osl e) _ l (H id) from O) P d9 ek el;have f4:((l.take co).drop c2).length=co-c2:=(by grind [kn.osl]);exact eZ.yE y v w c x u j d (S:=[id,s]) ac D aw eq (λm b=>⟨id,ac,_,f,ex m b⟩) p n (by grind) (by grind) (by grind) h a
 ·rename_i t;split at a
  case h_2=>exact a.elim
  rename_i e f0;cases b:(a7 T e&&b2 e.size 1300) with
  |false=>rw[b] at a;exact a.elim
  |true=>
  rw[b] at a;simp only[cC] at b;obtain⟨j,d⟩:=b;have d:=gT d;simp only[bG] at a;rw[t] at q;generalize D:A.eval z=ds at q;cases q;obtain⟨r,i,h,a⟩:=l0.Fr a;obtain⟨a0,V,M,p,n,am⟩:=vH c i;exact eZ.yE y v w c x u j d (S:=[s]) ac (xs:=[]) (f1:=[]) D ⟨bo,0,bn,.inl ⟨bn,bn,bn,bn⟩⟩ ac ac p n (by grind) (by grind) ac (by grind) (by grind)
 exact a.elim
end
end
section
def ih (E:fB) (C:eX) (A:bU bR) (g:ahY) (st:aO) (Q:aO->Prop):Prop:=
 ∀(a:Act) (e:bD),gJ C st a.tmps e->∀c:b5->Act->bD->Prop,(∀d b f,Q d->b.defers=a.defers->gJ C d b.tmps f->c .normal b f)->wpOps E.P A c g a e
def kN (A:bU bR) (st:aO) (d:bR) (a:bA):Prop:=
 match d.guard with
 |none=>a=bp
 |some (c,e)=>match(A[c]?).bind (·.dst) with
  |some b=>match gt st.g b with
   |.val .bool f=>(f==e)=a
   |.dg (.tuple _)=>a=bq
   |_=>b6
  |none=>b6
section
variable {E:fB} {C:eX} {st:aO} {A:bU bR} {Q:aO->Prop}
theorem kN.ok {b:Act} (h:cM C st b.tmps f j p q) {l:bR} {g:bA} (d:kN A st l g):akC l (yielded A b.tmps)=g:=by
 unfold kN at d;unfold akC;split at d
 ·grind
 rename_i t w m;rw[m];split at d
 ·rename_i c i;split at d
  ·rename_i s e;have:=h.tmp c;rw[e] at this;generalize a:b.tmps.getD c bW=r at this;cases this with|val o=>
   obtain⟨_,rfl⟩:=o;have n:b.tmps[c]?=Y (.bool s):=by
    rw[ali] at a;cases k:b.tmps[c]? with
    |none=>rw[k] at a;cases a
    |some v=>rw[k] at a;simp only[r5] at a;rw[a];rfl
   simp only[yielded,i,aC,n];rw[<-d];grind
  ·rename_i u e;have:=h.tmp c;rw[e] at this;generalize a:b.tmps.getD c bW=r at this;cases this;subst d;simp only[yielded,i,aC];rw[ali] at a;grind
  grind
 grind
def ih.nil (b:Q st):ih E C A [] st Q:=λa e c _ d=>d st a e b bn c
def ih.op {a:bR} (p:A[b]?=Y a) (t:kN A st a bp) (i:eZ E C a st (λd=>ih E C A k d Q)):ih E C A (b::k) st Q:=by intro f v c e q;obtain⟨y,B,z,l⟩:=id c;simp only[wpOps,p];rw[t.ok l,au bn];exact .inl (i f v c _ _ (λd g w o m r=>o g w r e (λu h x j n s=>q u h x j (n.trans m) s)))
theorem ih.skip {a:bR} (r:A[i]?=Y a) (o:a.dst=Y b) (q:C.ok b) (u:kN A st a bq) (l:ih E C A k ⟨(b,.dg bW)::st.g,st.h⟩ Q):ih E C A (i::k) st Q:=by intro z x n e s;obtain⟨d,v,j,c⟩:=id n;simp only[wpOps,r];rw[u.ok c,ax ac,o];exact l _ x ⟨d,v,j,c.put q (.dg bW)⟩ e (λw f y m p t=>s w f y m p t)
def gJ.yQ {b:ahQ} {c:bD} {st a:aO} (f:gJ C st b c) (j:oW a.g st) (k:oX a.h st) (l:mw a.g a.h=bp):gJ C a b c:=by obtain⟨d,m,e,i⟩:=f;exact⟨d,m,e,i.yQ j k (mw.get l)⟩
def J (E:fB) (C:eX) (e:Code) (st:aO) (Q:b5->aO->Prop):Prop:=
 ∀(a:Act) (d:bD),gJ C st a.tmps d->a.defers=[]->e.wp E.P (λf b g=>∃c,Q f c/\gJ C c b.tmps g/\b.defers=[]) a d
variable {R:b5->aO->Prop}
def J.aek {a:Code} (f:oW O.g st) (i:oX O.h st) (j:mw O.g O.h=bp) (c:J E C a O R):J E C a st R:=λb k d e=>c b k (d.yQ f i j) e
theorem J.region {id:X} (c:ih E C A (bI A.size) st (λa=>R .normal a)):J E C (.region id A bq) st R:=
 λb i d e=>wp_region (c b i d _ (λa _a' _w' g f h=>⟨a,g,h,f.trans e⟩))
theorem J.skip (a:R .normal st):J E C .skip st R:=λ_ _ b c=>wp_skip ⟨st,a,b,c⟩
theorem J.exit {id:X} (a:R (.exit id) st):J E C (.exit id) st R:=λ_ _ b c=>wp_exit ⟨st,a,b,c⟩
theorem J.ret (a:R .ret st):J E C .ret st R:=λ_ _ b c=>wp_ret ⟨st,a,b,c⟩
def acI (E:fB) (C:eX) (b:Code) (R:b5->aO->Prop):b5->aO->Prop
 |.normal,a=>J E C b a R
 |e,a=>R e a
def J.seq {d e:Code} (i:J E C d st (acI E C e R)):J E C (.seq d e) st R:=λf m j k=>by
 refine wp_seq (wp_mono (i f m j k) ?_);rintro h g n ⟨l,a,b,c⟩;cases h with
 |normal=>exact a g n b c
 |_=>exact⟨l,a,b,c⟩
def J.cond {a:bM} {l m:Code} {c:bA} (n:aT st.g a=.val .bool c) (p:c=bp->J E C l st R) (o:c=bq->J E C m st R):J E C (.cond a l m) st R:=by
 rintro b k ⟨f,j,h,e⟩ i;have:=e.aT a;rw[n] at this;generalize q:b.eval a=s at this;cases this with|val r=>
 obtain⟨_,rfl⟩:=r;exact wp_cond_split q (λd=>p d b k ⟨f,j,h,e⟩ i) (λd=>o d b k ⟨f,j,h,e⟩ i)
def Gq (id:X) (R:b5->aO->Prop):b5->aO->Prop
 |.exit b,a=>match bH b id with
  |true=>R .normal a
  |false=>R (.exit b) a
 |e,a=>R e a
theorem J.block {id:X} {b:Code} (f:J E C b st (Gq id R)):J E C (.block id b) st R:=λd m i j=>by
 refine wp_block (wp_mono (f d m i j) ?_);rintro e n o ⟨l,a,g,h⟩;cases e with
 |exit c=>
  simp only[Exit.inBlock];simp only[Gq] at a;by_cases k:c=id
  ·subst k;rw[ajT] at a;grind
  have:bH c id=bq:=(by grind [aiK]);grind
 |_=>exact⟨l,a,g,h⟩
def j2 {a c:Type} (b:a->bv (a⊕c)):X->a->bv c
 |0,_=>bo
 |n+1,e=>match b e with
  |none=>bo
  |some (.inl f)=>j2 b n f
  |some (.inr d)=>Y d
open Classical in
def loop {σ ρ:Type} (a:σ->bv (σ⊕ρ)) (d:σ):bv ρ:=
 if h:∃c,∃b,j2 a b d=Y c then Y h.choose else bo
theorem In {e g:Type} {f:e->bv (e⊕g)}:∀{n b:X} {d:e} {c:g},n<=b->j2 f n d=Y c->j2 f b d=Y c
 |0,_,_,_,_,a=>by cases a
 |n+1,0,_,_,a,_=>by omega
 |n+1,b+1,d,c,h,a=>by
  simp only[j2] at a|-;split at a
  ·cases a
  ·exact In aa a
  omega
theorem xy {c:N->bv (N⊕S)} {d:N} {b:S}:loop c d=Y b↔∃a,j2 c a d=Y b:=by
 unfold loop;constructor
 ·intro g;split at g
  ·grind
  grind
 rintro⟨a,f⟩;have e:∃b,∃a,j2 c a d=Y b:=⟨b,a,f⟩;rw[aja e];obtain⟨h,j⟩:=e.choose_spec;have i:=In (Nat.le_max_left a h) f;grind [In,Nat.le_max_right]
theorem Ei (c:N->bv (N⊕S)) (d:N):loop c d=match c d with
 |none=>bo
 |some (.inl f)=>loop c f
 |some (.inr e)=>Y e:=by
 apply Option.ext;intro e;rw[xy];cases i:c d with
 |none=>
  simp only[reduceCtorEq,iff_false];rintro⟨a,b⟩;cases a with
  |zero=>cases b
  |succ a=>grind [j2]
 |some g=>
  cases g with
  |inl f=>
   simp only;rw[xy];constructor
   ·rintro⟨a,b⟩;cases a with
    |zero=>cases b
    |succ a=>grind [j2]
   rintro⟨a,b⟩;exact⟨a+1,by grind [j2]⟩
  |inr j=>
   simp only;constructor
   ·rintro⟨a,b⟩;cases a with
    |zero=>cases b
    |succ a=>grind [j2]
   intro h;exact⟨1,by grind [j2]⟩
theorem J.loop {σ ρ K:Type} {b:Code} (kY:σ->aO) {z:σ->bv (σ⊕ρ)} {s:σ} {w:ρ->bv K} {I:K} (N:(loop z s).bind w=Y I) (T:oW (kY s).g st) (U:oX (kY s).h st) (V:mw (kY s).g (kY s).h=bp) (S:∀d q,z d=Y q->(match q with|.inl _=>True|.inr G=>w G=Y I)->J E C b (kY d) (λc t=>match q with
  |.inl r=>c=.normal/\oW (kY r).g t/\oX (kY r).h t/\mw (kY r).g (kY r).h=bp
  |.inr _=>(c=.normal->b6)/\R c t)):J E C (.loop b) st R:=by
 obtain⟨G,am,bl⟩:=eO.1 N;obtain⟨p,i⟩:=xy.1 am;have ap:∀(p:X) (d:σ) (e:Act) (l:bD),j2 z p d=Y G->gJ C (kY d) e.tmps l->e.defers=[]->∀(j:Frame) (w:bm Item) (k:bm Frame),
  ∃c v B,(∃t,R c t/\gJ C t v.tmps B/\v.defers=[])/\Arrives E.P (lone (j.at e (.code b::.inLoop b::w)) k l) j w k c v B:=by
  intro p
  induction p with
  |zero=>intro d e l i;cases i
  |succ p an=>
   intro d e l i D F j A k;simp only[j2] at i;cases H:z d with
   |none=>grind
   |some q=>
    rw[H] at i;have Q:=S d q H (by
     grind)
    obtain⟨c,m,u,⟨y,a,o,n⟩,f⟩:=Q e l D F j (.inLoop b::A) k;cases q with
    |inl r=>
     simp only at i a;obtain⟨rfl,aw,av,a0⟩:=a;obtain⟨M,L,a3,ad,O⟩:=an r m u i (o.yQ aw av a0) n j A k;exact⟨M,L,a3,ad,.of_steps (Steps.trans f (.one step_inLoop)) O⟩
    |inr ce=>
     obtain⟨bs,a⟩:=a;cases c with
     |normal=>grind
     |exit id=>exact⟨_,m,u,⟨y,a,o,n⟩,.pass (x:=.inLoop b) rfl (λ_ _=>.inl ac) f⟩
     |goto bx=>exact⟨_,m,u,⟨y,a,o,n⟩,.pass (x:=.inLoop b) rfl (λ_ _=>.inl ac) f⟩
     |ret=>exact⟨_,m,u,⟨y,a,o,n⟩,.pass (x:=.inLoop b) rfl (λ_ _=>.inl ac) f⟩
     |panic a4=>exact⟨_,m,u,⟨y,a,o,n⟩,.pass (x:=.inLoop b) rfl (λ_ _=>.inl ac) f⟩
     |outgrown=>exact⟨_,m,u,⟨y,a,o,n⟩,.pass (x:=.inLoop b) rfl (λ_ _=>.inl ac) f⟩
 refine J.aek T U V (λe l D F j A k=>?_);obtain⟨c,v,B,a,f⟩:=ap p s e l i D F j A k;exact⟨c,v,B,a,.of_steps (.one step_loop) f⟩
end
end
def s1:eC->eC->bA
 |.bg,_=>bp
 |.df,.df=>bp
 |.df,.bg=>bq
def xl:eC->bA
 |.df=>bp
 |.bg=>bq
def eH:ah->ah->bA
 |.int i,.int j=>if i=j then bp else bq
 |.bool,.bool|.str,.str|.nil,.nil=>bp
 |.a2 c a,.a2 d b=>s1 c d&&eH a b
 |.osl a,.a2 c b=>xl c&&eH a b
 |.ptr c a,.ptr d b=>s1 c d&&eH a b
 |.st a,.st b=>eH a b
 |.pr e f,.pr g h=>eH e g&&eH f h
 |.mp a,.fx c b=>xl c&&eH a b
 |.fx c a,.fx d b=>s1 c d&&eH a b
 |.fn k a,.fn c b=>bH k c&&eH a b
 |_,_=>bq
theorem s1.ok {f e:X->Prop} (h:∀b,j b->e b) {c d:eC} (g:s1 c d=bp) (a:bb f j c b):bb f e d b:=by
 cases c<;>cases d
 ·exact a
 ·exact .inl a
 ·cases g
 exact a.imp id (h b)
theorem xl.ok {a:eC} (b:xl a=bp):a=.df:=by cases a;cases b;rfl
theorem eH.den:∀{e b:ah},eH e b=bp->e.den=b.den:=by
 intro e
 induction e with
 |a2 f c d=>
  intro b a;cases b<;>simp only[eH] at a<;>try (cases a;done)
  grind
 |ptr f c d=>
  intro b a;cases b<;>simp only[eH] at a<;>try (cases a;done)
  grind
 |osl c d=>
  intro b a;cases b<;>simp only[eH] at a<;>try (cases a;done)
  grind
 |st c d=>
  intro b a;cases b with
  |st m=>grind [eH]
  |_=>simp only[eH] at a;cases a
 |pr g h i j=>
  intro b a;cases b<;>simp only[eH] at a<;>try (cases a;done)
  grind
 |int k=>intro b a;cases b<;>simp only[eH] at a<;>first|rfl|cases a
 |bool=>intro b a;cases b<;>simp only[eH] at a<;>first|rfl|cases a
 |str=>intro b a;cases b<;>simp only[eH] at a<;>first|rfl|cases a
 |nil=>intro b a;cases b<;>simp only[eH] at a<;>first|rfl|cases a
 |optr c _=>grind [eH]
 |eL=>grind [eH]
 |mp c d=>
  intro b a;cases b<;>simp only[eH] at a<;>try (cases a;done)
  grind
 |fx f c d=>
  intro b a;cases b<;>simp only[eH] at a<;>try (cases a;done)
  grind
 |fn l c d=>
  intro b a;cases b<;>simp only[eH] at a<;>try (cases a;done)
  grind
theorem eH.size:∀{c b:ah},eH c b=bp->c.size=b.size:=by
 intro c
 induction c with
 |st i d=>intro b a;cases b<;>simp only[eH] at a<;>first|(simp only[ah.size];exact d a)|cases a
 |pr e f g h=>
  intro b a;cases b<;>simp only[eH] at a<;>try (cases a;done)
  simp only[cC] at a;grind [ah.size]
 |_=>intro b a;cases b<;>simp only[eH] at a<;>first|rfl|cases a
theorem M6 (k:N=S) {d:bv (bm (Z×N)×X)} {g:bv (bm (Z×S)×X)} (l:HEq d g):(d=bo/\g=bo)\/∃i a j,d=Y (i,a)/\g=Y (j,a)/\∀e:bm (Z×X×N),kq e i a->∃f:bm (Z×X×S),kq f j a/\f.length=e.length/\∀(h:X) (c:Z×X×S),f[h]?=Y c->∃b:Z×X×N,e[h]?=Y b/\b.1=c.1/\b.2.1=c.2.1/\HEq b.2.2 c.2.2:=by
 subst k;cases l;cases d with
 |none=>grind
 |some m=>grind
theorem eH.cX {a b:ah} (d:eH a b=bp) (c:ahS):cX b c=jf.cX a c:=by cases a<;>cases b<;>simp only[eH] at d<;>first|rfl|cases d
theorem M5 (f:S=N) {a:bm S} {b:bm N} (g:HEq a b):b.length=a.length/\∀(e:X) (d:N),b[e]?=Y d->∃c,a[e]?=Y c/\HEq c d:=by subst f;grind
theorem VL (e:N=S) {a:bv N} {c:bv S} (f:HEq a c):(a=bo/\c=bo)\/∃b d,a=Y b/\c=Y d/\HEq b d:=by
 subst e;cases f;cases a with
 |none=>grind
 |some b=>grind
theorem VM {c d:Type} (e:N=c) (f:S=d) {a:N×S} {b:c×d} (g:HEq a b):HEq a.1 b.1/\HEq a.2 b.2:=by grind
theorem aR.df {E D:X->Prop} (N:∀d,D d->j d):∀{r υ:ah} {e:ahS} {x:r.den} {y:υ.den} {g:ahY},eH r υ=bp->HEq x y->aR (bb E D) f r e x g->(∀d∈g,j d)->aR (bb E j) f υ e y []:=by
 intro r
 induction r with
 |int cs=>
  intro υ e x y g a c b _;cases υ<;>simp only[eH] at a<;>try (cases a;done)
  split at a
  ·rename_i K;subst K;cases c;exact⟨bn,b.2⟩
  grind
 |bool=>intro υ e x y g a c b _;cases υ<;>simp only[eH] at a<;>first|(cases a;done)|(cases c;exact⟨bn,b.2⟩)
 |str=>intro υ e x y g a c b _;cases υ<;>simp only[eH] at a<;>first|(cases a;done)|(cases c;exact⟨bn,b.2⟩)
 |nil=>intro υ e x y g a c b _;cases υ<;>simp only[eH] at a<;>first|(cases a;done)|(cases c;exact⟨bn,b.2⟩)
 |optr l _=>grind [eH]
 |eL=>grind [eH]
 |mp l k=>
  intro υ e x y g a c b h;cases υ<;>simp only[eH] at a<;>try (cases a;done)
  simp only[cC] at a;obtain rfl:=xl.ok a.1;rcases M6 (eH.den a.2) c with⟨rfl,rfl⟩|⟨R,G,S,rfl,rfl,i⟩
  ·exact⟨bn,b.2⟩
  obtain⟨d,v,s,aw,n,z,q,C,U⟩:=b;obtain⟨t,A,p,i⟩:=i s z;refine⟨d,v,t,aw,bn,A,.inr (h d (by grind)),q,aa,λm T P=>?_⟩;grind [eH.size,eH.cX]
 |fx B l k=>
  intro υ e x y g a c b h;cases υ<;>simp only[eH] at a<;>try (cases a;done)
  simp only[cC] at a;rcases M6 (eH.den a.2) c with⟨rfl,rfl⟩|⟨R,G,S,rfl,rfl,i⟩
  ·exact⟨bn,b.2⟩
  obtain⟨d,v,s,aw,n,z,O,q,C,U⟩:=b;obtain⟨t,A,p,i⟩:=i s z;refine⟨d,v,t,aw,bn,A,s1.ok N a.1 O,q,aa,λm T P=>?_⟩;grind [eH.size,eH.cX]
 |fn cv l k=>
  intro υ e x y g a c b h;cases υ<;>simp only[eH] at a<;>try (cases a;done)
  rename_i B o;simp only[cC] at a;obtain rfl:=fv a.1;obtain⟨_,V,aw,n⟩:=b;exact⟨bn,V,aw,k (υ:=o) (x:=x) (y:=y) a.2 c n ac⟩
 |st l k=>
  intro υ e x y g a c b h;cases υ with
  |st o=>exact k (υ:=o) (x:=x) (y:=y) (by grind [eH]) c b h
  |_=>simp only[eH] at a;cases a
 |pr J d ci co=>
  intro υ e x y g a c b h;cases υ<;>simp only[eH] at a<;>try (cases a;done)
  rename_i G an;simp only[cC] at a;obtain⟨bl,f2,rfl,w,M⟩:=b;obtain⟨aq,a4⟩:=VM (eH.den a.1) (eH.den a.2) c;have ce:=eH.size a.1;exact⟨[],[],bn,by grind,by grind⟩
 |a2 B l k=>
  intro υ e x y g a c b h;obtain⟨rfl,F,u,rfl,aw,n,q⟩:=b;cases υ<;>simp only[eH] at a<;>try (cases a;done)
  rename_i H o;simp only[cC] at a;obtain⟨p,i⟩:=M5 (eH.den a.2) c;refine⟨bn,F,u,by rw[p],aa,n,?_⟩;grind [s1.ok,eH.size,List.eq_nil_of_length_eq_zero]
 |osl l k=>
  intro υ e x y g a c b h;cases υ<;>simp only[eH] at a<;>try (cases a;done)
  rename_i H o;simp only[cC] at a;obtain rfl:=xl.ok a.1;obtain⟨F,u,rfl,b⟩:=b;obtain⟨p,i⟩:=M5 (eH.den a.2) c;rcases b with⟨rfl,rfl,rfl,rfl⟩|⟨d,I,L,rfl,rfl,aw,n,q,C⟩
  ·obtain rfl:y=[]:=qv aa;exact⟨bn,bo,0,bn,bc _,λ_=>rfl,.inl bn⟩
  refine⟨bn,Y ⟨d,I,bo⟩,u,by rw[p],aa,(λa=>by cases a),.inr ⟨d,I,bn,.inr (h d ac),λm ad Q=>?_⟩⟩;obtain⟨am,w,M⟩:=i m ad Q;have bx:m<x.length:=(hF.1 w).1;obtain⟨a3,ap,av,a0⟩:=C m am (L[m]'(by omega)) w ac
  grind [akk,ajn,b7,eH.size]
 |ptr B l k=>
  intro υ e x y g a c b h;obtain⟨rfl,b⟩:=b;cases υ<;>simp only[eH] at a<;>try (cases a;done)
  rename_i H o;simp only[cC] at a;refine⟨bn,?_⟩;rcases VL (eH.den a.2) c with⟨rfl,rfl⟩|⟨J,d,rfl,rfl,bs⟩
  ·exact b
  grind [s1.ok,eH.size]
inductive n1:(τ:ah)->τ.den->(υ:ah)->υ.den->Prop
 |same {τ υ:ah} {x:τ.den} {y:υ.den} (h:eH τ υ=bp) (VK:HEq x y):n1 τ x υ y
 |ptr {t u:ah} {x:t.den} {y:u.den} (h:eH t u=bp) (VK:HEq x y):n1 (.optr t) x (.ptr .df u) (Y y)
theorem n1.rep {h B:X->Prop} (i:∀a,B a->j a) {m:d.den} {n:r.den} (b:n1 d m r n) (l:aR (bb h B) f d g m k) (e:∀a∈k,j a):aR (bb h j) f r g n []:=by
 cases b with
 |same b c=>exact l.df i b c e
 |ptr b c=>
  obtain⟨a,q,u,p,rfl,rfl,aw,s,w,t⟩:=l;exact⟨bn,a,q,p,bn,.inr (e a ac),by grind [eH.size],s,t.df i b c (λo v=>e o (by grind))⟩
def n1.st {c:d.den} {e:r.den} (a:n1 d c r e) (b:ahS):cX d b=cX r b:=by
 cases a with
 |same a _=>cases d<;>cases r<;>first|rfl|(simp only[eH] at a;cases a;done)
 |ptr a _=>rfl
section
def mm {c d e:Type} (b:c->d->e->Prop):bm c->bm d->bm e->Prop
 |[],[],[]=>True
 |a::as,f::g,h::i=>b a f h/\mm b as g i
 |_,_,_=>b6
def iw {c d:Type} (b:c->d->Prop):bm c->bm d->Prop
 |[],[]=>True
 |a::as,e::f=>b a e/\iw b as f
 |_,_=>b6
theorem KZ {d e:Type} {f:d->e->Prop}:∀{as:bm d} {c:bm e},iw f as c->c.length=as.length
 |[],[],_=>rfl
 |[],_::_,b=>b.elim
 |_::_,[],b=>b.elim
 |a::as,g::c,b=>by have:=KZ b.2;grind
def Ga {e f:Type} {c:e->f->Prop}:∀{as:bm e} {d:bm f} {g:bm e} {h:bm f},iw c as d->iw c g h->iw c (as++g) (d++h)
 |[],[],_,_,_,b=>b
 |[],_::_,_,_,b,_=>b.elim
 |_::_,[],_,_,b,_=>b.elim
 |a::as,j::d,_,_,b,i=>⟨b.1,Ga b.2 i⟩
theorem yB {h i:Type} {f:h->i->Prop}:∀{as:bm h} {c:bm i},as.length=c.length->(∀(e:X) a b,as[e]?=Y a->c[e]?=Y b->f a b)->iw f as c
 |[],[],_,_=>trivial
 |[],_::_,d,_=>by cases d
 |_::_,[],d,_=>by cases d
 |a::as,b::c,d,g=>⟨g 0 a b bn rfl,yB (by grind) (λe j k l m=>g (e+1) j k (by grind) (by grind))⟩
def Gb {b g h:Type} {c:g->h->Prop} {d:b->g} {e:b->h} (f:∀x,c (d x) (e x)):∀a:bm b,iw c (a.map d) (a.map e)
 |[]=>trivial
 |x::a=>⟨f x,Gb f a⟩
inductive hE where
 |v (t:aF)
 |m (t:aF) (y:t.1.den)
 |o (t:aF)
 |c (f:X) (aeZ:bm aF)
 |n
 |s (f:X) (l:ahY)
 |w (σ:ah) (xs:bm σ.den) (lo hi:X) (ys:bm σ.den)
def yb (I c:X->Prop) (w:bD) (a:aF) (d:Value):Prop:=∃b,d=cX a.1 b/\aR (bb I c) w a.1 b a.2 []
def x8 (I f:X->Prop) (w:bD):hE->Value->ahY->Prop
 |.v b,d,a=>a=[]/\∃e,d=cX b.1 e/\aR (bb I f) w b.1 e b.2 []
 |.m b _,d,a=>∃e,d=cX b.1 e/\aR (bb I f) w b.1 e b.2 a
 |.o b,d,a=>∃e,d=cX b.1 e/\aR (bb I f) w b.1 e b.2 a
 |.n,d,a=>a=[]/\d=.slice bo 0 0
 |.s _ _,_,a=>a=[]
 |.w q h g j _,d,a=>∃k l i,d=.slice (Y ⟨k,l+g*q.size,bo⟩) (j-g) (i-g)/\(g<j/\j<=h.length/\h.length<=i)/\aR (bb I f) w (.osl q) [.slice (Y ⟨k,l,bo⟩) h.length i] h a
 |.c r t,d,a=>a=[]/\∃p:ahS,d=.func (.func r) #[] p.toArray/\iw (yb I f w) t p
def pd:X->bm hE->bv ec
 |_,[]=>bo
 |k,.s a b::_=>Y (k,a,b)
 |k,_::c=>pd (k+1) c
def KL (w:bD) (b:ahS) (i:ev):bv ec->Prop
 |none=>True
 |some (d,h,e)=>d<b.length/\(∀c∈e,c<b.length)/\∃a f g,b.getD d bW=.pointer (Y ⟨a,f,bo⟩)/\a<w.heap.size/\a∉i.flatten/\w.cell? ⟨a,f,bo⟩=Y (.func (.func h) #[] g)/\g.toList=e.map λc=>b.getD c bW
def x9 (I e:X->Prop) (w:bD):hE->Value->ahY->Prop
 |.m i n,d,a=>∃g,d=cX i.1 g/\aR (bb I e) w i.1 g n a
 |.w j l b k o,d,a=>∃f h c,d=.slice (Y ⟨f,h+b*j.size,bo⟩) (k-b) (c-b)/\b<c/\aR (bb I e) w (.osl j) [.slice (Y ⟨f,h,bo⟩) l.length c] o a
 |_,_,a=>a=[]
def Bn (I:X->Prop) (w:bD) (a:aF) (d:Value) (c:ahY):Prop:=∃b,d=cX a.1 b/\aR (bb I (λ_=>b6)) w a.1 b a.2 c
def qd:ahS->Value
 |[v]=>v
 |vs=>.tuple vs.toArray
structure KJ (I B:X->Prop) (w:bD) (fs:ev) (args:bm hE) (vs:ahS) (res:bm aF) (I':X->Prop) (gs hs:ev) (lM:ahS) (w':bD):Prop where
 args:mm (x9 I' B w') args vs gs
 res:mm (Bn I' w') res lM hs
 nd:(gs.flatten++hs.flatten).Nodup
 Ls:∀b∈gs.flatten++hs.flatten,¬I' b/\¬B b/\b<w'.heap.size/\(w.heap.size<=b\/b∈fs.flatten)
 i:∀b,I b->I' b
 i2:∀b,I' b->I b\/(b<w'.heap.size/\(w.heap.size<=b\/b∈fs.flatten))
 size:w.heap.size<=w'.heap.size
 os:w'.os=w.os
 tape:w'.tape=w.tape
 output:w'.output=w.output
 evo:∀b,b<w.heap.size->kO w w' b
 heap:∀b,b<w.heap.size->b∉fs.flatten->w'.heap[b]?=w.heap[b]?
def lm (E:fB) (I:X->Prop) (w:bD):Prop:=∀a∈E.glob,aR (bb I λ_=>b6) w (.a2 .bg (.int a.k)) [.slice (Y ⟨a.b,0,bo⟩) a.xs.length a.xs.length] a.xs []
theorem lm.mono {E:fB} {I I':X->Prop} {w w':bD} (g:lm E I w) (c:∀a,I a->I' a) (i:∀a,I a->w'.heap[a]?=w.heap[a]?):lm E I' w':=λf h=>
 (g f h).mono (λe a d=>by
  have b:I a:=(by cases e;exact d;exact d.elim id False.elim);exact⟨by cases e;exact c a b;exact .inl (c a b),c5.of_heap (i a b)⟩) (λa b=>by cases b)
def rS (E:fB) (h:FuncId) (e:bm hE) (k:bm aF):Prop:=
 ∀(w:bD) (I c:X->Prop) (d:ahS) (b:ev),(∀a,I a\/c a->a<w.heap.size)->mm (x8 I c w) e d b->b.flatten.Nodup->(∀a∈b.flatten,¬I a/\¬c a/\a<w.heap.size)->KL w d b (pd 0 e)->lm E I w->Calls E.P h d.toArray w (λg w'=>∃I' i j f,g=.returned (qd f)/\KJ I c w b e d k I' i j f w')
def ah.fZ:ah->bA
 |.a2 .df _|.ptr .df _|.fx .df _=>bq
 |.a2 .bg a|.ptr .bg a|.osl a|.optr a|.st a|.mp a|.fx .bg a|.fn _ a=>a.fZ
 |.pr b c=>b.fZ&&c.fZ
 |_=>bp
def rO:ah->bA
 |.pr _ _|.nil|.eL=>bq
 |_=>bp
def ab9 (b:rO d=bp) (c:g.length=d.size) (e:y.length=d.size) (a:cX d g=cX d y):g=y:=by
 have i:d.size=1->cX d g=g.headD bW->cX d y=y.headD bW->g=y:=(by intro h aq f;rw[h] at c e;obtain⟨k,rfl⟩:=qB.1 c;obtain⟨l,rfl⟩:=qB.1 e;rw[aq,f] at a;simpa using a);cases d with
 |st j=>have a:amm g.toArray=amm y.toArray:=a;simpa using a
 |pr=>cases b
 |nil=>cases b
 |eL=>cases b
 |_=>exact i bn rfl rfl
def x7 (g:bm (X×aF)) (f:ahY):ak->aF->Prop
 |.val b i,a=>n1 b i a.1 a.2
 |.dg d,a=>iK a.1 d.cells.toList=Y a.2/\cX a.1 d.cells.toList=d
 |.ref id h,a=>eP id f=bq/\∃c b e,ar g id=Y c/\eN c.1 c.2 h b e/\n1 b e a.1 a.2
 |_,_=>b6
mutual
inductive oH (h:bm (X×aF)) (S:ahY):ak->(τ:ah)->τ.den->Prop
 |base {a:ak} {τ:ah} {x:τ.den} (HS:x7 h S a ⟨τ,x⟩):oH h S a τ x
 |hy {a:ak} {τ:ah} {x:τ.den} (hv:oE τ=bp) (HS:oH h S a τ x):oH h S (.hy a) (.ptr .bg τ) (Y x)
 |eA {n:X} {l:bm ak} {τ:ah} {x:τ.den} (D3:vO h S l τ x):oH h S (.eA n l) (.fn n τ) x
inductive vO (h:bm (X×aF)) (S:ahY):bm ak->(τ:ah)->τ.den->Prop
 |nil:vO h S [] .nil ()
 |cons {a:ak} {l:bm ak} {τ υ:ah} {x:τ.den} {y:υ.den} (hv:oE τ=bp) (HS:oH h S a τ x) (D3:vO h S l υ y):vO h S (a::l) (.pr τ υ) (x,y)
end
def RB (b:bm (X×aF)) (f:ahY):ak->hE->Prop
 |av,.v a=>x7 b f av a
 |.ref id [],.m a _=>ar b id=Y a/\a.1.fZ=bp/\rO a.1=bp
 |.ref id [],.o a=>ar b id=Y a
 |.eA p d,.c l q=>p=l/\iw (λj a=>oH b f j a.1 a.2) d q
 |.dg e,.o a=>e=.slice bo 0 0/\∃t,a=⟨.osl t,[]⟩
 |.dg e,.n=>e=.slice bo 0 0
 |.view id [] h g,.w i r d k _=>ar b id=Y ⟨.osl i,r⟩/\(d=h/\k=g)/\h<g/\i.fZ=bp
 |_,.s _ _=>True
 |_,_=>b6
def oG (c:bm (X×aF)) (b:ahY):bm ak->bm hE->Prop
 |[],[]=>True
 |a::as,d::e=>RB c b a d/\oG c b as e
 |_,_=>b6
def gu:bm ak->bm hE->ahY
 |.ref id []::as,.m _ _::a=>id::gu as a
 |.ref id []::as,.o _::a=>id::gu as a
 |.view id [] _ _::as,.w _ _ _ _ _::a=>id::gu as a
 |_::as,_::a=>gu as a
 |_,_=>[]
def my:bm ak->bm hE->ahY
 |.ref id []::as,.m _ _::a=>id::my as a
 |.view id [] _ _::as,.w _ _ _ _ _::a=>id::my as a
 |_::as,_::a=>my as a
 |_,_=>[]
def j4:bm ak->bm hE->bm (X×aF)
 |.ref id []::as,.m b c::a=>(id,⟨b.1,c⟩)::j4 as a
 |.view id [] _ _::as,.w e _ _ _ d::a=>(id,⟨.osl e,d⟩)::j4 as a
 |_::as,_::a=>j4 as a
 |_,_=>[]
def rF (a:X) (c:bA) (b:X):X:=bif c then a else 1000*(a+1)+b
def vu (b:X) (c:bA):X->bm aF->bm ak
 |_,[]=>[]
 |j,a::d=>(bif a.1.pure then .val a.1 a.2 else .ref (rF b c j) [])::vu b c (j+1) d
def iU (a:X) (b:bA):X->bm aF->bm (X×aF)
 |_,[]=>[]
 |j,d::c=>bif d.1.pure then iU a b (j+1) c else(rF a b j,d)::iU a b (j+1) c
def vt (a:X):bm aF->ak
 |[t]=>bif t.1.pure then .val t.1 t.2 else .ref a []
 |l=>.fe (vu a bq 0 l)
def iR:bm aF->bA
 |[_]=>bp
 |_=>bq
def jq:ahY->bA
 |[]=>bp
 |a::b=>!(eP a b)&&jq b
theorem jq.ok:∀{c:ahY},jq c=bp->c.Nodup
 |[],_=>List.nodup_nil
 |a::e,b=>by simp only[jq,cC,tC] at b;exact ko.2 ⟨(λd=>by rw[ha.2 d] at b;cases b.1),jq.ok b.2⟩
def Tn (c:X) (st:aO) (b:bm ak) (a:bm hE) (d:bm aF):aO:=
 ⟨(c,vt c d)::kill (gu b a) (xn (my b a)) st.g,(j4 b a++iU c (iR d) 0 d)++del (gu b a) st.h⟩
theorem aR.fZ {I G B':X->Prop} {w:bD}:∀{τ:ah} {f:ahS} {b:τ.den} {g:ahY},τ.fZ=bp->aR (bb I G) w τ f b g->aR (bb I B') w τ f b g:=by
 intro τ
 induction τ with
 |a2 o m h=>
  intro f b g c a;cases o
  ·obtain⟨j,r,s,aw,d,k,l⟩:=a;refine⟨j,r,s,aw,d,k,l.imp id ?_⟩;rintro⟨e,i,N,v,P⟩;refine⟨e,i,N,v,λp D F=>?_⟩;obtain⟨n,H,J,K⟩:=P p D F;exact⟨n,H,J,h (by simpa only[ah.fZ] using c) K⟩
  grind [ah.fZ]
 |ptr o m h=>
  intro f b g c a;cases o
  ·obtain⟨j,aw⟩:=a;refine⟨j,?_⟩;cases b with
   |none=>exact aw
   |some D=>
    obtain⟨e,i,n,z,A,B,aJ,C⟩:=aw;exact⟨e,i,n,z,A,B,aJ,h (by grind [ah.fZ]) C⟩
  grind [ah.fZ]
 |osl m h=>
  intro f b g c a;obtain⟨r,s,aw,d⟩:=a;refine⟨r,s,aw,d.imp id ?_⟩;rintro⟨e,i,M,z,A,B,aJ,C,am⟩;refine⟨e,i,M,z,A,B,aJ,C,λp D E F V=>?_⟩;grind [ah.fZ]
 |optr m h=>
  intro f b g c a;obtain⟨e,i,E,n,aw,d,k,l,y,S⟩:=a;exact⟨e,i,E,n,aw,d,k,l,y,h (by grind [ah.fZ]) S⟩
 |st m h=>intro f b g c a;exact h (by grind [ah.fZ]) a
 |mp m h=>
  intro f b g c a;cases b with
  |none=>exact a
  |some x=>
   obtain⟨e,t,q,aw,d,u,k,l,y⟩:=a;refine⟨e,t,q,aw,d,u,k,l,λp x O=>?_⟩;grind [ah.fZ]
 |fx o m h=>
  intro f b g c a;cases o
  ·cases b with
   |none=>exact a
   |some x=>
    obtain⟨e,t,q,aw,d,u,v,k,l,y⟩:=a;refine⟨e,t,q,aw,d,u,v,k,l,λp x O=>?_⟩;grind [ah.fZ]
  grind [ah.fZ]
 |fn ad m h=>
  intro f b g c a;obtain⟨j,T,aw,d⟩:=a;exact⟨j,T,aw,h (by simpa only[ah.fZ] using c) d⟩
 |pr U e Q R=>
  intro f b g c a;simp only[ah.fZ,cC] at c;obtain⟨L,f2,j,aw,d⟩:=a;exact⟨L,f2,j,Q c.1 aw,R c.2 d⟩
 |_=>intro f b g c a;exact a
theorem NM {e f:Type} (c:e->f):∀(b:bm (X×e)) (a:X),ar (b.map λd=>(d.1,c d.2)) a=(ar b a).map c
 |[],_=>rfl
 |(g,v)::b,a=>by rw[ie,dh,dh,NM c b a];grind
abbrev Bk:=aF×ahS×ahY
def g4 (rt:X->ahS):bm ak->bm hE->ev->bm (X×Bk)
 |.ref id []::as,.m d e::a,c::b=>(id,(⟨d.1,e⟩,rt id,c))::g4 rt as a b
 |.view id [] _ _::as,.w g _ _ _ f::a,c::b=>(id,(⟨.osl g,f⟩,rt id,c))::g4 rt as a b
 |_::as,_::a,_::b=>g4 rt as a b
 |_,_,_=>[]
def k7 (a:X) (b:bA):X->bm aF->er->ev->bm (X×Bk)
 |j,f::e,g::c,h::d=>bif f.1.pure then k7 a b (j+1) e c d else(rF a b j,(f,g,h))::k7 a b (j+1) e c d
 |_,_,_,_=>[]
theorem Pv {rt:X->ahS}:∀{as:bm ak} {bs:bm hE} {gs:ev},gs.length=bs.length->(g4 rt as bs gs).map (λf=>(f.1,f.2.1))=j4 as bs
 |[],bs,gs,_=>by cases bs<;>cases gs<;>rfl
 |a::as,[],gs,e=>by cases gs with
  |nil=>cases a<;>first|rfl|(rename_i id b;cases b<;>rfl)|(rename_i id b h g;cases b<;>rfl)
  |cons=>cases e
 |a::as,c::bs,[],e=>by cases e
 |a::as,c::bs,i::gs,e=>by
  have d:=Pv (rt:=rt) (as:=as) (bs:=bs) (gs:=gs) (by grind);cases a with
  |ref id b=>cases b with
   |nil=>cases c<;>simp only[g4,j4,ie,d]
   |cons=>cases c<;>simp only[g4,j4,d]
  |view id b h g=>cases b with
   |nil=>cases c<;>simp only[g4,j4,ie,d]
   |cons=>cases c<;>simp only[g4,j4,d]
  |_=>cases c<;>simp only[g4,j4,d]
theorem E5 {d:X} {s:bA}:∀{j:X} {res:bm aF} {cs:er} {hs:ev},cs.length=res.length->hs.length=res.length->(k7 d s j res cs hs).map (λe=>(e.1,e.2.1))=iU d s j res
 |j,[],cs,hs,a,b=>by cases cs<;>cases hs<;>simp[k7,iU]
 |j,f::c,[],hs,a,b=>by cases a
 |j,f::c,g::cs,[],a,b=>by cases b
 |j,f::c,g::cs,h::hs,a,b=>by have i:=E5 (d:=d) (s:=s) (j:=j+1) (res:=c) (cs:=cs) (hs:=hs) (by grind) (by grind);simp only[k7,iU];grind
section
variable {C:eX} {st:aO} {A:ahQ} {w w':bD} {I I' B':X->Prop} {rt:X->ahS} {fp:X->ahY}
theorem Pw (D:cM C st A w I rt fp) {S:ahY}:∀{avs:bm ak} {t:ahS} {args:bm hE} {gs:ev},iw (cN (bb I C.B) w st.h rt fp) avs t->oG st.h S avs args->mm (x9 I' B' w') args t gs->∀a∈g4 rt avs args gs,aR (bb I' C.B) w' a.2.1.1 a.2.2.1 a.2.1.2 a.2.2.2/\a.2.2.1=rt a.1/\a.1∈gu avs args/\∃g,ar st.h a.1=Y g/\a.2.1.1=g.1
 |[],t,args,gs,l,p,q,a,b=>by cases args<;>cases gs<;>cases b
 |x::i,t,[],gs,l,p,q,a,b=>by cases x<;>exact p.elim
 |x::i,[],d::u,gs,l,p,q,a,b=>l.elim
 |x::i,v::t,d::u,[],l,p,q,a,b=>q.elim
 |av::i,v::t,d::u,ad::gs,l,p,q,a,b=>by
  obtain⟨M,am⟩:=l;obtain⟨J,an⟩:=p;obtain⟨K,ap⟩:=q;have a0:=Pw D (S:=S) (avs:=i) (args:=u) (gs:=gs) am an ap;have e:a∈g4 rt i u gs->aR (bb I' C.B) w' a.2.1.1 a.2.2.1 a.2.1.2 a.2.2.2/\a.2.2.1=rt a.1/\a.1∈gu (av::i) (d::u)/\∃g,ar st.h a.1=Y g/\a.2.1.1=g.1:=by
   intro b;obtain⟨aw,P,r,G⟩:=a0 a b;refine⟨aw,P,?_,G⟩;cases av with
   |ref id f=>cases f<;>cases d<;>simp only[gu]<;>first|exact hY _ r|exact r
   |view id f O L=>cases f<;>cases d<;>simp only[gu]<;>first|exact hY _ r|exact r
   |_=>cases d<;>exact r
  cases av with
  |ref id f=>
   cases f with
   |cons s f=>exact e (by cases d<;>exact b)
   |nil=>
    cases d with
    |v g=>exact e b
    |o g=>exact e b
    |c n d1=>exact e b
    |n=>exact e b
    |s cs a3=>exact e b
    |w bs i O L Q=>exact e b
    |m g d2=>
     simp only[g4,fV] at b;rcases b with rfl|b
     ·obtain⟨j,N,F⟩:=J;obtain⟨ci,k,z⟩:=K;cases M with|ref y E=>
      rw[j] at y;cases y;obtain⟨rfl,rfl,rfl⟩:=aX.gw.1 E;have:=ab9 F (D.tree id _ j).1.len z.len k;subst this;exact⟨z.fZ N,bn,by simp[gu],g,j,bn⟩
     grind
  |view id f O L=>
   cases f with
   |cons s f=>exact e (by cases d<;>exact b)
   |nil=>
    cases d with
    |w bs i a3 k Q=>
     simp only[g4,fV] at b;rcases b with rfl|b
     ·obtain⟨j,⟨rfl,rfl⟩,N,F⟩:=J;obtain⟨d,o,T,k,cv,z⟩:=K;cases M with
      |me=>omega
      |view y E aw P r=>
      rename_i d0 d3 c1 R bl a4 U;rw[j] at y;cases y;obtain⟨aq,co,V⟩:=aX.gw.1 E;simp only[ah.osl.injEq] at aq;subst aq;obtain⟨bx,ce,G,_⟩:=(D.tree id _ j).1;have H:rt id=[.slice (Y ⟨R,bl,bo⟩) a4 U]:=V;rw[G] at H;simp only[hL,ah7,b9] at H;rw[ax aa] at k;simp only[ah7,eR,ain,b9] at k;obtain⟨⟨c2,dl⟩,ds,aJ⟩:=k;have:rt id=[.slice (Y ⟨d,o,bo⟩) i.length T]:=(by grind);refine⟨?_,bn,by simp[gu],_,j,bn⟩;show aR (bb I' C.B) w' (.osl _) (rt id) Q ad;rw[this];exact z.fZ F
     grind
    |_=>exact e b
  |_=>exact e (by cases d<;>exact b)
theorem Pu {x:ahY}:∀{as:bm ak} {r:bm hE} {g:ahS} {e:ev},oG st.h x as r->mm (x9 I' B' w') r g e->((g4 rt as r e).map (λz=>z.2.2.2)).flatten=e.flatten
 |[],[],g,e,f,d=>by cases g<;>cases e<;>first|rfl|exact d.elim
 |[],q::t,g,e,f,d=>f.elim
 |a::as,[],g,e,f,d=>by cases a<;>exact f.elim
 |a::as,q::t,[],e,f,d=>d.elim
 |a::as,q::t,v::g,[],f,d=>d.elim
 |a::as,q::t,v::g,k::e,f,d=>by
  have y:=Pu (as:=as) f.2 d.2;have l:=f.1;have p:=d.1;rw[lW,<-y];cases q with
  |m u F=>
   cases a with
   |ref id b=>cases b with
    |nil=>grind [ajc,g4]
    |cons=>exact l.elim
   |_=>exact l.elim
  |w H E C B G=>
   cases a with
   |view id b i j=>cases b with
    |nil=>grind [ajc,g4]
    |cons=>exact l.elim
   |ref id b=>cases b<;>exact l.elim
   |_=>exact l.elim
  |v u=>
   have:k=[]:=p;subst this;cases a with
   |ref id b=>grind [g4]
   |view id b i j=>grind [g4]
   |_=>simp only[g4,iu]
  |o u=>
   have:k=[]:=p;subst this;cases a with
   |ref id b=>grind [g4]
   |view id b i j=>grind [g4]
   |_=>simp only[g4,iu]
  |n=>
   have:k=[]:=p;subst this;cases a with
   |ref id b=>grind [g4]
   |view id b i j=>grind [g4]
   |_=>simp only[g4,iu]
  |s A i=>
   have:k=[]:=p;subst this;cases a with
   |ref id b=>grind [g4]
   |view id b i j=>grind [g4]
   |_=>simp only[g4,iu]
  |c n D=>
   have:k=[]:=p;subst this;cases a with
   |ref id b=>grind [g4]
   |view id b i j=>grind [g4]
   |_=>simp only[g4,iu]
theorem PY {I:X->Prop}:∀{f:bm aF} {c:ahS} {b:ev},mm (Bn I w) f c b->∃h:er,h.length=f.length/\b.length=f.length/\c.length=f.length/\∀(e:X) (t:aF) (d:ahS) (a:ahY) (g:Value),f[e]?=Y t->h[e]?=Y d->b[e]?=Y a->c[e]?=Y g->g=cX t.1 d/\aR (bb I (λ_=>b6)) w t.1 d t.2 a
 |[],c,b,a=>by cases c<;>cases b<;>first|exact⟨[],bn,bn,bn,λe t d a g r=>by grind⟩|exact a.elim
 |t::i,[],b,a=>a.elim
 |t::i,g::c,[],a=>a.elim
 |t::i,g::c,p::b,a=>by obtain⟨⟨d,l,u⟩,j⟩:=a;obtain⟨h,v,x,y,s⟩:=PY j;refine⟨d::h,by grind,by grind,by grind,λe z k q A aq m n o=>?_⟩;grind
theorem P0 {m:X} {n:bA}:∀{j:X} {i:bm aF} {c:er} {d:ev},c.length=i.length->d.length=i.length->∀a∈k7 m n j i c d,∃e:X,i[e]?=Y a.2.1/\c[e]?=Y a.2.2.1/\d[e]?=Y a.2.2.2
 |j,[],c,d,f,g,a,b=>by cases c<;>cases d<;>simp[k7] at b
 |j,k::h,[],d,f,g,a,b=>by cases f
 |j,k::h,l::c,[],f,g,a,b=>by cases g
 |j,k::h,l::c,q::d,f,g,a,b=>by
  simp only[k7] at b;have s:a∈k7 m n (j+1) h c d->∃e,(k::h)[e]?=Y a.2.1/\(l::c)[e]?=Y a.2.2.1/\(q::d)[e]?=Y a.2.2.2:=λb=>(by obtain⟨e,aq,o,p⟩:=P0 (by grind) (by grind) a b;exact⟨e+1,by rw[vW];exact aq,by rw[vW];exact o,by rw[vW];exact p⟩);cases r:k.1.pure
  ·rw[r] at b;simp only[bP,fV] at b;rcases b with rfl|b
   ·exact⟨0,bn,bn,bn⟩
   grind
  grind
theorem PZ {d:X} {s:bA}:∀{j:X} {res:bm aF} {cs:er} {hs:ev},((k7 d s j res cs hs).map (λe=>e.2.2.2)).flatten.Sublist hs.flatten
 |j,[],cs,hs=>by simp[k7]
 |j,b::a,[],hs=>by simp[k7]
 |j,b::a,c::cs,[]=>by simp[k7]
 |j,b::a,c::cs,f::hs=>by have g:=PZ (d:=d) (s:=s) (j:=j+1) (res:=a) (cs:=cs) (hs:=hs);simp only[k7];grind
theorem Lh (n:cM C st A w I rt fp) (f:∀a,C.B a->B' a) (m:∀id P,ar st.h id=Y P->eP id k=bq->∀a∈fp id,B' a) (c:cN (bb I C.B) w st.h rt fp V R) (b:x7 st.h k V P):∃e,R=cX P.1 e/\aR (bb I B') w P.1 e P.2 []:=by
 cases V with
 |val l j=>
  have b:n1 l j P.1 P.2:=b;cases c with|val u=>
  exact⟨_,b.st _,b.rep f u ac⟩
 |dg D=>
  obtain⟨aw,y⟩:=b;cases c;grind [pR]
 |ref id x=>
  obtain⟨o,z,l,j,d,t,i⟩:=b;cases c with|ref g r=>
  rw[d] at g;cases g;obtain⟨rfl,v,s,_,q⟩:=n.k0 d t r;exact⟨_,i.st _,i.rep f s (λa p=>m id _ d o a (q a p))⟩
 |_=>exact b.elim
mutual
theorem Gt (j:cM C st A w I rt fp) {m:ahY} (g:∀a,C.B a->B' a) (i:∀id J,ar st.h id=Y J->eP id m=bq->∀a∈fp id,B' a):∀{n:ak} {d:ah} {u:d.den},oH st.h m n d u->∀{t:Value},cN (bb I C.B) w st.h rt fp n t->∃e,t=cX d e/\aR (bb I B') w d e u []
 |_,_,_,.base k,_,b=>Lh j g i b k
 |_,_,_,.hy G k,_,b=>by
  cases b with|hy E F K f=>
  rename_i l a;obtain⟨e,aq,p⟩:=Gt j g i k f;obtain⟨o,y⟩:=o3.one G;have c:=p.len;rw[o] at c;obtain⟨x,rfl⟩:=qB.1 c;rw[y] at aq;have aq:l=x:=aq;subst aq;have D:fr w a 0 [l]:=λr M q=>by
   cases r with
   |zero=>cases q;exact F
   |succ r=>cases q
  exact⟨[.pointer (Y ⟨a,0,bo⟩)],bn,bn,a,0,[l],bn,E,o.symm,D,p⟩
 |_,_,_,.eA c,_,b=>by
  cases b with|eA z f=>
  rename_i s;exact⟨[.func (.func _) #[] s],bn,bn,s.toList,bn,Lz j g i c (yB (by simpa using z) (λH v a aw L=>f H v a aw (by grind)))⟩
theorem Lz (k:cM C st A w I rt fp) {f:ahY} (i:∀b,C.B b->B' b) (j:∀id x,ar st.h id=Y x->eP id f=bq->∀b∈fp id,B' b):∀{m:bm ak} {e:ah} {n:e.den},vO st.h f m e n->∀{a:ahS},iw (cN (bb I C.B) w st.h rt fp) m a->aR (bb I B') w e a n []
 |_,_,_,.nil,a,c=>by
  cases a with
  |nil=>exact⟨bn,bn⟩
  |cons=>exact c.elim
 |_,_,_,.cons v t u,a,c=>by
  cases a with
  |nil=>exact c.elim
  |cons y a=>
   obtain⟨q,r⟩:=c;obtain⟨z,aq,g⟩:=Gt k i j t q;have s:=Lz k i j u r;obtain⟨d,p⟩:=o3.one v;have l:=g.len;rw[d] at l;obtain⟨o,rfl⟩:=qB.1 l;rw[p] at aq;have aq:y=o:=aq;subst aq;exact⟨[],[],bn,by rw[d];exact g,by rw[d];exact s⟩
end
def LF (j:cM C st A w I rt fp) {d:ahY} (g:∀b,C.B b->B' b) (i:∀id c,ar st.h id=Y c->eP id d=bq->∀b∈fp id,B' b):∀{e:bm ak} {l:ahS} {k:bm aF},iw (cN (bb I C.B) w st.h rt fp) e l->iw (λm c=>oH st.h d m c.1 c.2) e k->iw (yb I B' w) k l
 |[],[],[],_,_=>trivial
 |[],_::_,_,a,_=>a.elim
 |_::_,[],_,a,_=>a.elim
 |[],_,_::_,_,a=>a.elim
 |_::_,_,[],_,a=>a.elim
 |_::_,_::_,_::_,a,f=>⟨Gt j g i f.1 a.1,LF j g i a.2 f.2⟩
theorem Lj (r:cM C st A w I rt fp) {S:ahY} (E:∀d,C.B d->B' d) (H:∀id q,ar st.h id=Y q->eP id S=bq->∀d∈fp id,B' d):∀{F:bm ak} {t:ahS} {args:bm hE},iw (cN (bb I C.B) w st.h rt fp) F t->oG st.h S F args->∃e,mm (x8 I B' w) args t e/\e.flatten=((gu F args).map fp).flatten
 |[],t,args,i,g=>by cases args with
  |nil=>cases t with
   |nil=>exact⟨[],trivial,bn⟩
   |cons=>exact i.elim
  |cons=>exact g.elim
 |x::l,t,[],i,g=>by cases x<;>exact g.elim
 |x::l,[],d::u,i,g=>i.elim
 |av::l,v::t,d::u,i,g=>by
  obtain⟨p,i⟩:=i;obtain⟨a,ad⟩:=g;obtain⟨e,f,V⟩:=Lj r E H i ad;cases d with
  |v q=>
   have D:gu (av::l) (.v q::u)=gu l u:=by cases av<;>first|rfl|(rename_i id b;cases b<;>rfl)|(rename_i id b z D;cases b<;>rfl)
   have a:x7 st.h S av q:=(by cases av<;>exact a);exact⟨[]::e,⟨⟨bn,Lh r E H p a⟩,f⟩,by grind⟩
  |s U z=>
   have D:gu (av::l) (.s U z::u)=gu l u:=by cases av<;>first|rfl|(rename_i id b;cases b<;>rfl)|(rename_i id b z D;cases b<;>rfl)
   exact⟨[]::e,⟨bn,f⟩,by grind⟩
  |n=>
   cases av with
   |dg Q=>
    obtain rfl:Q=.slice none 0 0:=a;cases p;exact⟨[]::e,⟨⟨bn,bn⟩,f⟩,by grind [gu]⟩
   |ref id b=>cases b<;>exact a.elim
   |_=>exact a.elim
  |c n d2=>
   cases av with
   |eA m z=>
    obtain⟨rfl,a⟩:=a;cases p with|eA cs am=>
    rename_i a4;refine⟨[]::e,⟨⟨bn,a4.toList,bn,LF r E H (yB aa (λap R d f V=>am ap R d f (by grind))) a⟩,f⟩,by grind [gu]⟩
   |ref id b=>cases b<;>exact a.elim
   |_=>exact a.elim
  |w bl l c1 co d4=>
   cases av with
   |view id b z D=>cases b with
    |nil=>
     obtain⟨k,⟨rfl,rfl⟩,J,a0⟩:=a;cases p with
     |me=>omega
     |view j y aw dl ds=>
     rename_i d1 d5 c2 K P O L;rw[k] at j;cases j;obtain⟨aq,ci,T⟩:=aX.gw.1 y;simp only[ah.osl.injEq] at aq;subst aq;have N:=(r.tree id _ k).1;have G:rt id=[.slice (Y ⟨K,P,bo⟩) O L]:=T;have an:=N;obtain⟨bx,ce,a3,d0⟩:=an;rw[a3] at G;simp only[hL,ah7,b9] at G;have cv:l.length=O:=G.2.1;refine⟨fp id::e,⟨⟨K,P,L,?_,⟨J,aa,aa⟩,?_⟩,f⟩,by grind [ajc,gu]⟩
     ·rw[ax aa]
     have:=aR.fZ (τ:=.osl bl) (B':=B') a0 N;grind
    |cons=>exact a.elim
   |ref id b=>cases b<;>exact a.elim
   |_=>exact a.elim
  |m q d3=>
   cases av with
   |ref id b=>cases b with
    |nil=>
     obtain⟨k,J,_⟩:=a;cases p with|ref j y=>
     rw[k] at j;cases j;obtain⟨rfl,rfl,rfl⟩:=aX.gw.1 y;exact⟨fp id::e,⟨⟨rt id,bn,(r.tree id _ k).1.fZ J⟩,f⟩,by grind [ajc,gu]⟩
    |cons=>exact a.elim
   |_=>exact a.elim
  |o q=>
   cases av with
   |ref id b=>cases b with
    |nil=>
     have k:ar st.h id=Y q:=a;cases p with|ref j y=>
     rw[k] at j;cases j;obtain⟨rfl,rfl,rfl⟩:=aX.gw.1 y;refine⟨fp id::e,⟨⟨rt id,bn,(r.tree id _ k).1.mono (λm d M=>⟨?_,c5.refl w d⟩) (λd _=>c5.refl w d)⟩,f⟩,by grind [ajc,gu]⟩;cases m
     ·exact M
     exact M.imp (λg=>g) (E d)
    |cons=>exact a.elim
   |dg Q=>
    obtain⟨rfl,bs,rfl⟩:=a;cases p;exact⟨[]::e,⟨⟨[.slice bo 0 0],bn,bo,0,bn,.inl ⟨bn,bn,bn,bn⟩⟩,f⟩,by grind [gu]⟩
   |_=>exact a.elim
end
end
end Go.jf
end
