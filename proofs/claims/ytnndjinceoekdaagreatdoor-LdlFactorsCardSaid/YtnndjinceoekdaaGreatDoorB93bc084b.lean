/-
  Parts of the proof: Ok25, Pa1, Pl2, Pl3, Pl5, Th1, Pl6, Pl8, Pl9, Pl10, Pl12, ThT, Pa2, Pa3, Pa4, Pa5, Pa6, Pa7, Pa8, Pa9, Pa10, Pa11, Pa12, Pa13, Pa14, Pa15, Pa16, Pa17, Pa18, Pa19, Pa20, Pa21, Pa22, Pa23, Pa24, Pa25, Pa26, Pa27, Pa28, Pa29, Pm1, Pm2, G25: the framework (Fw), pure forms (Dn), plain laws (Pl, Th), calls of functions (Ok).
-/
import Derived.Test.YtnndjinceoekdaaGreatDoorProg
import Derived.KernelRfl
import Derived.Test.YtnndjinceoekdaaGreatDoorRows
import Derived.ProofKit
import Derived.Lib.LaidTab
import Derived.LaidMore
import Derived.Test.YtnndjinceoekdaaGreatDoorBd8d38343

set_option linter.all false
set_option maxHeartbeats 1000000
open _root_ renaming Int->Z,Nat->X,Bool->bA,Unit->bt,List->bm,Option->bv,Array->bU,rfl->bn,False->b6,decide_eq_true_eq->aiF,decide_eq_true->aij,decide_eq_false->aiO,Decidable->aiU,and_true->b9,decide_eq_decide->cy,beq_self_eq_true->aiN,cond_true->bG,if_pos->cb,cond_false->bP,if_neg->cn
open Option renaming some->Y,bind->bB,none->bo,bind_some->bM
open Go.Proofs.Tryz renaming prog->cp,func266->akX
open Nat renaming ble->b2,min_eq_left->ajz,lt_or_ge->cl,le_trans->cu,and_le_left->amM,or_lt_two_pow->amN,and_two_pow_sub_one_eq_mod->alW,add_comm->aj7,div_add_mod->akO,two_pow_pos->ajX,pow_lt_pow_right->amP,mul_eq_zero->amQ,zero_mul->amR,div_lt_iff_lt_mul->akN,le_div_iff_mul_le->amS,div_div_eq_div_mul->amT,mul_div_cancel->alX,mul_pos->amV,mul_le_mul_left->alY,pow_mul->alZ,le_refl->cd,eq_of_testBit_eq->amX,testBit_and->amY,testBit_two_pow->alO,add_sub_cancel->am5,blt->ca,zero_add->am7,le_mul_of_pos_right->ane,div_eq_of_lt->al6,div_le_self->akr,mod_le->al7
open Bool renaming true->bp,false->bq,true_and->ake
open Go renaming Exit->b5,IntKind->cw,World->bC
open Go.IntKind renaming u32->cc,i64->bK,u64->bE,wrap->ajV,signed->amL,u8->alU
open List renaming range->bI,replicate->bJ,length_take->air,take_add_one->cr,getElem?_eq_getElem->bS,take_append_drop->ajM,length_eq_zero_iff->alR,pairwise_iff_getElem->aih,getD->aiZ,getElem_mem->b7,mem_singleton->aik,length_filter_le->aiH,length_map->cg,range_succ->aiI,mem_iff_getElem->ai8,take_length->cA,getElem?_eq_none->ajU,getElem?_take->akC,take_of_length_le->ch,getLast?_eq_getElem?->amW,getElem_set_self->am0,drop->al0,length_drop->alJ,set_append_right->ak3,length_set->akl,nil_append->al1,drop_drop->aj3,append_assoc->aiQ,drop_eq_nil_of_le->al2
open Int renaming le_refl->ajg,lt_trans->amK,toNat_natCast->aiT,fdiv_eq_ediv_of_nonneg->amO,natAbs_mul->ajY,lt_or_le->ajh,mul_nonneg->akY,le_of_lt->aiB,le_total->amU,add_comm->akZ,add_zero->ak0,emod_add_mul_ediv->ajA,zero_add->ajB,mul_lt_mul_of_pos_right->ak1,emod_emod_of_dvd->amZ,mul_emod_left->ak2,mul_emod_mul_of_pos->am1,mul_zero->akj,one_mul->akk,mul_comm->aji,ediv_ediv_of_nonneg->am2,ediv_nonneg->ai9,le_ediv_iff_mul_le->ak4,mul_add->am3,mul_one->am4,ediv_lt_of_lt_mul->am6,emod_lt_of_pos->akm,emod_nonneg->akn,mul_le_mul_of_nonneg_left->ak5,lt_of_mul_lt_mul_left->ako,mul_neg_of_pos_of_neg->am8,mul_ediv_cancel_left->am9,ediv_le_self->akp,emod_neg->ana,ediv_neg->anb,pow_add->anc,natAbs_neg->akq,mul_ediv_cancel->al3,zero_sub->al4,eq_ofNat_of_zero_le->cB,natAbs_natCast->ak6,add_mul->ak7,natAbs_add_le->al5,natCast_ediv->ak8,natCast_emod->anf
open Option.some renaming injEq->aju
open Go.jg.ae renaming eq_iff->bQ,fb->bZ,e6->bX,af->bu,ky->ail,loop->aiA,mono->cz
open Decidable renaming decide->br
open Go.jg renaming wrap64->ct
open List.Pairwise renaming filter->anH
open BitVec renaming ofInt->ck
open Go.World renaming cell?->ajq
open Go.jg.ah renaming size->aiG
noncomputable section
namespace Go.jg
variable{a d o:Z}{b e l s:X}{c f:aif}{g j:bA}{h n:Type}{i k:ah9}{m:Prop}{p:ew}{q:(ep×Z×Z×be×bt)->Prop}{r:et}{t:(ep×Z×be×bt)->Prop}
section
open Go.Proofs
open Tryz
abbrev fS:ah:=(.int .u32)
abbrev fK:ah:=(.a2 .bg fS)
abbrev cY:ah:=(.st (.pr .bool (.pr fK .nil)))
abbrev aE:ah:=(.int .i64)
abbrev cG:ah:=(.st (.pr .bool (.pr cY (.pr aE .nil))))
abbrev gT:ah:=(.osl aE)
abbrev cZ:ah:=(.int .u64)
abbrev wi:ah:=(.st (.pr aE (.pr aE (.pr gT (.pr gT (.pr (.osl cZ) .nil))))))
abbrev gU:ah:=(.a2 .bg aE)
abbrev eW:ah:=(.a2 .de aE)
abbrev jz:ah:=(.a2 .de cZ)
abbrev jk:ah:=(.st (.pr aE (.pr aE (.pr eW (.pr eW (.pr jz .nil))))))
abbrev sd:ah:=(.st (.pr eW (.pr eW (.pr jz (.pr eW (.pr eW (.pr jz (.pr aE .nil))))))))
abbrev n5:ah:=(.st (.pr (.a2 .bg gU) .nil))
abbrev wl:ah:=(.st (.pr aE (.pr n5 (.pr (.a2 .bg (.fw .bg cG)) .nil))))
abbrev mf:ah:=(.st (.pr gU (.pr (.a2 .bg cZ) .nil)))
abbrev BH:ah:=(.st (.pr (.ptr .bg wl) (.pr gT (.pr gT (.pr (.osl cZ) (.pr (.osl mf) (.pr aE .nil)))))))
abbrev yG:ah:=(.st (.pr gU (.pr gU (.pr (.a2 .bg cZ) (.pr gU (.pr gU (.pr (.a2 .bg cZ) (.pr aE .nil))))))))
abbrev qN:ah:=(.osl cG)
abbrev Ge:ah:=(.osl qN)
abbrev qK:ah:=(.pr Ge .nil)
abbrev K1:ah:=(.st (.pr aE (.pr aE (.pr qN .nil))))
abbrev F6:ah:=(.st (.pr gT (.pr gT (.pr (.osl cZ) (.pr gT (.pr gT (.pr (.osl cZ) (.pr aE .nil))))))))
abbrev n4:ah:=(.st (.pr aE (.pr aE (.pr cZ .nil))))
abbrev yF:ah:=(.osl .bool)
abbrev sb:ah:=(.optr (.st (.pr gT (.pr aE (.pr yF qK)))))
abbrev oO:ah:=(.st (.pr aE (.pr aE (.pr eW (.pr aE .nil)))))
abbrev kp:ah:=(.ptr .de (.st (.pr eW (.pr aE (.pr (.a2 .de .bool) (.pr (.a2 .de (.a2 .de cG)) .nil))))))
abbrev F7:ah:=(.st (.pr gT (.pr (.osl cZ) (.pr gU (.pr (.osl (.osl cZ)) .nil)))))
abbrev F8:ah:=(.st (.pr gT (.pr gU (.pr (.a2 .bg cZ) (.pr gT (.pr gT (.pr (.osl cZ) (.pr aE .nil))))))))
abbrev ua:ah:=(.st (.pr aE (.pr aE (.pr gU (.pr gU (.pr (.a2 .bg cZ) .nil))))))
abbrev Sy:ah:=(.optr (.st (.pr gU (.pr aE qK))))
abbrev lp:ah:=(.st (.pr (.a2 .de eW) .nil))
abbrev sc:ah:=(.st (.pr cY (.pr cY .nil)))
abbrev BC:ah:=(.st (.pr aE (.pr aE (.pr aE .nil))))
abbrev F9:ah:=(.osl (.st (.pr aE (.pr aE (.pr gT (.pr aE .nil))))))
abbrev Sz:ah:=(.optr (.st (.pr gT (.pr aE qK))))
abbrev qL:ah:=(.st (.pr eW (.pr aE (.pr (.a2 .de (.a2 .de cG)) .nil))))
abbrev wj:ah:=(.osl yF)
abbrev wk:ah:=(.st (.pr gT (.pr (.osl cZ) .nil)))
abbrev nj:ah:=(.a2 .bg cG)
abbrev lq:ah:=(.osl fS)
abbrev Ga:ah:=(.st (.pr gU (.pr (.a2 .bg cZ) (.pr gU (.pr (.a2 .bg (.a2 .bg cZ)) .nil)))))
abbrev SA:ah:=(.optr cG)
abbrev qM:ah:=(.st (.pr .bool (.pr cY (.pr aE (.pr .bool .nil)))))
abbrev Gb:ah:=(.st (.pr aE (.pr aE (.pr nj .nil))))
abbrev BD:ah:=(.ptr .bg (.st (.pr gU (.pr aE (.pr (.a2 .bg .bool) (.pr (.a2 .bg nj) .nil))))))
abbrev SB:ah:=(.optr wi)
abbrev SC:ah:=(.ptr .bg cY)
abbrev BE:ah:=(.st (.pr (.osl gU) .nil))
abbrev SD:ah:=(.optr cY)
abbrev K2:ah:=(.a2 .bg (.st (.pr aE (.pr aE (.pr gU (.pr aE .nil))))))
abbrev SE:ah:=(.ptr .bg cG)
abbrev pF:ah:=(.osl n4)
abbrev SF:ah:=(.optr (.st (.pr aE (.pr n5 (.pr (.osl (.mp cG)) .nil)))))
abbrev Gc:ah:=(.st (.pr gU (.pr aE (.pr (.a2 .bg nj) .nil))))
abbrev SG:ah:=(.st (.pr aE (.pr aE (.pr (.a2 .de cG) .nil))))
abbrev SH:ah:=(.optr K1)
abbrev Gd:ah:=(.optr (.st (.pr wj (.pr yF .nil))))
abbrev SI:ah:=(.osl (.osl sc))
abbrev SJ:ah:=(.ptr .bg jk)
abbrev BF:ah:=(.st (.pr eW (.pr jz (.pr eW (.pr (.a2 .de jz) .nil)))))
abbrev kq:ah:=(.a2 .de oO)
abbrev SK:ah:=(.optr F6)
abbrev SL:ah:=(.optr BC)
abbrev BG:ah:=(.ptr .bg lp)
abbrev SM:ah:=(.optr F7)
abbrev SN:ah:=(.ptr .bg sd)
abbrev K3:ah:=(.osl nj)
def tt:bm (X×ah):=[(3,aE),(4,.bool),(5,(.int .u8)),(9,.str),(22,(.a2 .bg cZ)),(23,gU),(24,(.a2 .bg cZ)),(26,ua),(27,K2),(31,yG),(41,cZ),(42,cZ),(46,BC),(50,nj),(52,Gb),(55,(.a2 .bg nj)),(56,fK),(58,cY),(60,cG),(63,(.a2 .bg (.a2 .bg cY))),(85,(.a2 .bg gU)),(87,n5),(88,(.a2 .bg (.fw .bg cG))),(90,wl),(93,(.st (.pr aE (.pr aE (.pr gU (.pr aE .nil)))))),(96,(.a2 .bg mf)),(98,(.st (.pr (.ptr .bg wl) (.pr gU (.pr gU (.pr (.a2 .bg cZ) (.pr (.a2 .bg mf) (.pr aE .nil)))))))),(99,(.a2 .bg (.a2 .bg BD))),(100,BD),(103,(.a2 .bg BD)),(107,(.a2 .bg Gc)),(108,(.a2 .bg Ga)),(110,Gc),(114,(.a2 .bg (.a2 .bg cZ))),(116,Ga),(127,(.a2 .bg (.a2 .bg .bool))),(129,cZ),(130,(.a2 .bg .bool)),(142,(.a2 .bg (.a2 .bg sc))),(148,sc),(149,(.a2 .bg sc)),(152,(.a2 .bg cY)),(158,fS),(163,(.fw .bg cG)),(182,(.st (.pr gU (.pr aE (.pr (.a2 .bg .bool) (.pr (.a2 .bg nj) .nil)))))),(191,mf),(202,(.a2 .bg n4)),(205,n4),(234,(.a2 .bg (.a2 .bg .bool))),(259,(.st (.pr (.a2 .bg (.a2 .bg .bool)) (.pr (.a2 .bg .bool) .nil)))),(288,(.fn 0 .nil)),(321,qM),(323,cZ)]
def Ro:∀a b,ar tt a=Y b->fi cp b a:=Rp (by kernel_rfl)
def E:fA:={P:=cp,tt:=tt,ok:=Ro,mix:=by kernel_rfl,glob:=[⟨0,301,.u8,pQ⟩],gok:=VW Ro (S:=5) (by kernel_rfl) (by kernel_rfl),eqs:=[46],eqok:=MF (by kernel_rfl)}
def Kj:bm ah:=[gT,SA,lq,cG,cY,SB,SD,.bool,qN,Sy,cZ,SC,wj,pF,SE,sb,SH,Sz,Ge,SK,SL,yF,SM,SJ,F9,SI,wi,K3,fK,(.optr yG),(.optr BE),(.optr wk),(.optr F8),yG,SN,ua,BG,(.optr BH),K1,(.optr n5),(.osl cZ),n5,gU,(.optr ua),BC,wk,(.optr Gb),Gb,SF,(.ptr .bg oO),(.optr gT),(.osl Ga),K2,(.optr sc),Gd,(.optr jk),nj,(.osl Gc),(.optr Ge),(.osl gU),(.optr gU),(.st (.pr gT (.pr aE qK))),(.ptr .bg qL),(.osl (.a2 .bg cY)),(.ptr .bg sc),sc,BE,(.mp cG),(.ptr .bg qM),mf,(.osl (.osl BD)),(.st (.pr gU (.pr aE qK))),F7,(.osl jz),(.ptr .bg SG),n4,(.optr cZ),(.optr oO),(.ptr .bg aE),(.optr mf),F8,(.optr qL),F6,(.osl cY),(.osl sc),fS,(.a2 .bg n4),(.ptr .bg n4),(.optr aE),aE,oO,qM,(.ptr .bg .nil),(.osl mf),(.a2 .bg mf),(.ptr .bg BF),(.a2 .bg nj),(.a2 .bg (.a2 .bg .bool)),(.st (.pr aE (.pr aE (.pr gT (.pr aE .nil))))),(.a2 .bg gU),(.ptr .bg wl),(.osl (.mp cG)),(.ptr .bg kq),(.st (.pr gT (.pr aE (.pr yF qK)))),BH,qL,(.osl (.osl cZ)),(.a2 .bg cZ)]
def aH {a:Func} {c:bm hl} {f:bm ah} {i:hp c->bv (iL c (lE f))} (j:yE E) (e:X) (h:E.P.funcs[b]?=Y a) (g:(a.body.isSome&&b2 c.length a.ntmps)=bp:=by kernel_rfl) (l:(a.name=="runtime.NumGoroutine")=bq:=by kernel_rfl) (k:∀d,Ad ⟨E.tt,j.1,(JA Kj e).2.1,a.ntmps,jR 0 c++nQ (ju 0 c),[],(JA Kj e).2.2,ju 0 c,[],[],E.glob,E.eqs⟩ ((JA Kj e).1.ex (a.body.getD .skip)) (a.body.getD .skip) c a.results.toList f d=i d:=by intro d;kernel_rfl):aC E ⟨b,c,f,i⟩:=
 aC.q j _ h (TN h l (by have:=g;simp only[bk] at this;exact this.1)) _ _ g k
def AF:aC E ⟨16,[.v aE,.v aE],[aE],sy⟩:=aH aF 0x60d func16
def Ji:aC E ⟨55,[.v jz,.v aE],[cZ],uF⟩:=aH (aj AF aF) 0x7a1e9b060d func55
def AH:aC E ⟨28,[.v cZ],[.bool],q3⟩:=aH aF 0xd func28
def vl:aC E ⟨229,[.v fK],[lq],mi⟩:=aH aF 0x2082c821ab266d7f4b3435b0c101a28f318a51a6c0d func229
def tg:aC E ⟨227,[.v .bool,.v fK],[cY],lX⟩:=aH (aj vl aF) 0x1830070321200d func227
def EO:aC E ⟨156,[.v aE],[cY],sB⟩:=aH (aj tg aF) 0xf8130f0123de5733a6c0d func156
def AE:aC E ⟨155,[.v cY],[cY],pY⟩:=aH (aj tg aF) 0x10558600d func155
def xT:aC E ⟨77,[],[cG],sD⟩:=aH aF 0x608 func77
def u4 (a:Z):gR:=⟨E.tt,[],[],14,[0]++(jR 0 [.v fS]++nQ (ju 0 [.v fS])),[(0,.val fS a)]++[],[],ju 0 [.v fS],[],[],E.glob,E.eqs⟩
noncomputable def sX:Code:=Tryz.f237.body.getD .skip
def u5:bU Oper:=(vw 3 sX).getD #[]
def Ii:l9:=.two .none (.leaf) (.two .none (.two .none (.leaf) (.leaf)) (.leaf))
def Em:l9:=.keep [0] (.two .none (.leaf) (.two .none Ii (.two .none (.leaf) (.leaf))))
def xy (a:Z):aO:=⟨[(4,.val .bool (a==0)),(3,.val fS a),(2,.val aE 0),(0,.val fS a)],[]⟩
def Ih (a:Z):b5->aO->bv (iL [.v fS] (lE [.int .i64])):=MR E.tt [.v fS] [.tmp 2] [.int .i64] (a,())
def WG:sX=.seq (Fo sX) (.seq (Fo (QK sX)) (.seq (.region 3 u5 bq) .ret)):=by kernel_rfl
def WJ:u5.size=10:=by kernel_rfl
def WH (a:Z) (b:b5->aO->bv h) (c:aO->bv h):hL (u4 a) .leaf (Fo sX) ⟨[(0,.val fS a)],[]⟩ h (A9 (λd=>hL (u4 a) Ii (Fo (QK sX)) d h (A9 c b)) b)=bif a==0 then b .ret ⟨(2,.val aE 32)::(xy a).g,[]⟩ else c (xy a):=by kernel_rfl
def WD (a:Z) (b:aO->bv h):kX (u4 a) u5 [0,1,2,3,4] (xy a) b=b ⟨(9,.val fS (cc.wrap (eT cc a (cc.wrap (0-a))*125613361)))::(8,.val fS (eT cc a (cc.wrap (0-a))))::(7,.val fS (cc.wrap (0-a)))::(6,.val fS a)::(5,.val fS a)::(xy a).g,[]⟩:=by kernel_rfl
def WE (a c d b:Z):kX (u4 a) u5 [5,6,7,8,9] ⟨(9,.val fS b)::(8,.val fS c)::(7,.val fS d)::(6,.val fS a)::(5,.val fS a)::(xy a).g,[]⟩ (Ih a .ret)=(eJ cc b 27).bind λe=>(ao pQ e).bind λf=>Y (bK.wrap f,()):=by kernel_rfl
def WK (a:Z):Ih a .ret ⟨(2,.val aE 32)::(xy a).g,[]⟩=Y ((32:Z),()):=by kernel_rfl
def WI (a:Z) (c:hp [.v fS]) (e f:Code) (b:b5->aO->bv h) (g:c=(a,())):hL ⟨E.tt,[],[],14,jR 0 [.v fS]++nQ (ju 0 [.v fS]),[],[],ju 0 [.v fS],[],[],E.glob,E.eqs⟩ Em (.seq e (.seq f (.seq (.region 3 u5 bq) .ret))) ⟨ns 0 [.v fS] c,nt 0 [.v fS] c⟩ h b=hL (u4 a) .leaf e ⟨[(0,.val fS a)],[]⟩ h (A9 (λd=>hL (u4 a) Ii f d h (A9 (λd=>kX (u4 a) u5 (bI u5.size) d (b .ret)) b)) b):=by subst g;rfl
def WF (b:hp [.v fS]):Ad ⟨E.tt,[],[],14,jR 0 [.v fS]++nQ (ju 0 [.v fS]),[],[],ju 0 [.v fS],[],[],E.glob,E.eqs⟩ Em sX [.v fS] [.tmp 2] [.int .i64] b=wX b:=by obtain⟨a,⟨⟩⟩:=b;show hL _ Em sX _ _ (Ih a)=_;rw[WG,WI a _ _ _ _ rfl,WH,WJ,show bI 10=[0,1,2,3,4]++[5,6,7,8,9] from rfl,H3,WD,WE,WK];exact Eq.refl (bif a==(0:Z) then Y ((32:Z),()) else(eJ cc (cc.wrap (eT cc a (cc.wrap (0-a))*125613361)) 27).bind λc=>(ao pQ c).bind λd=>Y (bK.wrap d,()))
def RY:jw:=⟨237,[.v fS],[aE],wX⟩
def Pf:aC E RY:=
 aC.of (fn:=Tryz.f237) (rs:=[.tmp 2]) [] [] [] Em func237 (by kernel_rfl) (by kernel_rfl) (by kernel_rfl) call237 Rg (by intro a;exact WF a)
def OR:aC E ⟨160,[.v cY],[aE],q2⟩:=aH (aj Pf (aj vl aF)) 0xfff03f421b60061aa16f0a6c0d func160
def AG:aC E ⟨161,[.v cY],[cY],q1⟩:=aH (aj tg aF) 0x10558600d func161
def Pe:aC E ⟨233,[.v fK,.v aE],[lq],w2⟩:=aH aF 0x53d01391bde7118d0ac7d3ef9214db060d func233
def Jd:aC E ⟨234,[.v fK,.v aE],[lq,.bool],w3⟩:=aH aF 0xae324cae5979e8e0fe3c42bc0032316c0fa33799a98d35177a6226ce541ba6f9a5312616247cec1866b350374658d682429b060d func234
def OU:aC E ⟨165,[.v cY],[cY],zz⟩:=aH (aj tg aF) 0x10558600d func165
def Zu:aC E ⟨230,[.v fK,.v fK],[lq],Dd⟩:=aH aF 0x41f880420be0ec3b4b01fad20a17d5a9cdab20ad391bde7118d0ac7d3ef9214db060d func230
def Pd:aC E ⟨231,[.v fK,.v fK],[aE],zA⟩:=aH aF 0x620a429b060d func231
def Zv:aC E ⟨232,[.v fK,.v fK],[lq],zB⟩:=aH aF 0x2bfb002c07ff882a23ead4e6d590569c77118d0ac7d3ef9214db060d func232
def AC:aC E ⟨153,[.v cY,.v cY],[cY],pX⟩:=aH (aj Zv (aj Pd (aj Zu (aj vl (aj tg aF))))) 0x87eec45f48a50c4d35ea5dbd0327ba273d8d7d9851599a1b93c028393a4a49226da742b0e4b5741c7d1a4425335b38ac9ddf6ec6d73aa14fbcfefe8f838d623e950613abe741d88d1c5709c0f41a3bd5b492627075fd81041753060d func153
def I2:aC E ⟨159,[.v cY,.v cY],[cY],w1⟩:=aH (aj OU (aj AC aF)) 0x5e73c6ad8004bcf2b753060d func159
def AD:aC E ⟨154,[.v cY,.v aE],[cY],mS⟩:=aH (aj Jd (aj Pe (aj tg (aj I2 (aj EO (aj AE aF)))))) 0x657a928fb28058de5154418953bd06329486eca3a7945218b305d21ce9d76312700b99aa9feb8968fe29e0c2b7cc5630429aa70f4b3f0612bdd729b060d func154
def OS:aC E ⟨162,[.v cY,.v aE],[cY],w4⟩:=aH (aj AD aF) 0x12a206e95ad94ccb18d26e4798ccc8a34c0d func162
def Je:aC E ⟨238,[.v fS],[aE],wW⟩:=aH aF 0x2b42385dc039ada07d3 func238
def I3:aC E ⟨163,[.v cY],[aE],uG⟩:=aH (aj Je (aj vl aF)) 0x1870070758600d func163
def tj:aC E ⟨78,[.v cY,.v aE],[cG],oa⟩:=aH (aj xT (aj I3 (aj OS (aj AG (aj OR (aj AE aF)))))) 0x963e283b401bc6a47f500e722ae4a11b67b635a8a6db6db060d func78
def Jm:aC E ⟨96,[.v aE],[cG],uH⟩:=aH (aj tj (aj EO aF)) 0x18a00d func96
def rD:aC E ⟨74,[.v cG],[cG],lY⟩:=aH (aj tj (aj xT aF)) 0xc570600d func74
def rC:aC E ⟨72,[.v cY],[aE],lW⟩:=aH (aj AE aF) 0xd func72
def Pk:aC E ⟨251,[.v .bool,.v cZ],[cZ],q4⟩:=aH aF 0x60d func251
def Zy:aC E ⟨248,[.v .bool,.v aE],[cZ],zE⟩:=aH (aj Pk aF) 0x8a2dc93060d func248
def Z1:aC E ⟨288,[.v cY,.v aE],[.bool],zy⟩:=aH (aj Jd (aj vl aF)) 0x2990006591f2c01c2d628060d func288
def Z2:aC E ⟨289,[.v .bool,.v aE,.v .bool,.v aE],[.bool],Dm⟩:=aH aF 0xe2860d func289
def Zz:aC E ⟨249,[.v .bool,.v cY,.v aE,.v .bool,.v aE],[cY],Dh⟩:=aH (aj rC (aj Z2 (aj Z1 (aj OS (aj OR (aj EO (aj AC aF))))))) 0x4841b1f4c951b3668961efe0046ea6adac908c330f1e6893f358452583050a227323b3c816a80161d792bca935c86b039431f0d9047b5c98b2fe17e6a536c48e2860d func249
def ZA:aC E ⟨250,[.v cY],[aE,.bool],Db⟩:=aH (aj AE aF) 0x6ce369aa2348940f9bc72429b6c0d func250
def O1:aC E ⟨181,[.v .bool,.v cY,.v aE,.v .bool,.v aE],[cZ],zF⟩:=aH (aj Pk (aj ZA (aj Zz (aj Zy (aj I3 (aj AD aF)))))) 0x2cd3add023f828516648d1039f3c84d19dcc4db6c48e2860d func181
def Jn:aC E ⟨99,[.v cG,.v aE],[cZ],w5⟩:=aH (aj rD (aj rC (aj O1 (aj AG aF)))) 0x19da5495bdf3e1e25d606f1bd81ea02760dd565cb46a6db060d func99
def Zr:aC E ⟨221,[.v aE,.v aE],[cZ],Dn⟩:=aH (aj Jn (aj Jm aF)) 0x60d func221
def YR:aC E ⟨144,[.v cZ],[cZ],G8⟩:=aH (aj Zr aF) 0xd func144
def aaS:aC E ⟨58,[.v cZ,.v aE],[cZ],uE⟩:=aH (aj AH (aj AF (aj YR aF))) 0x60d func58
def OW:aC E ⟨17,[.v jz,.v aE,.v aE,.v aE],[wi],uD⟩:=aH (aj aaS (aj Ji aF)) 0x10e057a81411e7be866cc52f25d6df74f79002f7e5810665d9a801364afb04dd9cca493b5616526035f285796a5e2d5d30229a9e74e8f8805c46276d4157b88b6ecd9611b5df63da49a48cfe5f9be76f12429b0e2860d func17
def Zo:aC E ⟨217,[.v jz],[.bool],Dq⟩:=aH (aj AH aF) 0x30a5214c0d func217
def AA:aC E ⟨133,[.v jk],[aE],q5⟩:=aH (aj Zo aF) 0xdd7ff49089a231007afee5752252d7622a0dbbe989d68087900b4c0d func133
def PC:aC E ⟨98,[.v jk,.v aE,.v aE],[cZ],sF⟩:=aH (aj AA aF) 0x137fa01285e44d1e0174c2860d func98
def aaX:aC E ⟨79,[.v cZ],[.bool],Do⟩:=aH aF 0xd func79
def xR:aC E ⟨27,[.v cZ],[cG],ku⟩:=aH (aj aaX (aj tj (aj xT (aj AH aF)))) 0xb408ac93c00cf40f9bcce9b6c0d func27
def PB:aC E ⟨97,[.v cG],[cG],zD⟩:=aH (aj tj (aj rD (aj AG aF))) 0x2771e6eff1011974c90a38b2ee992d3a3536c0d func97
def aaW:aC E ⟨69,[.v (.a2 .de cG)],[cG],Dl⟩:=aH (aj tj (aj xT (aj rD (aj rC (aj AD (aj AC aF)))))) 0x5ef36a8170566dd971c5e3f17348993db00bc7a6c1a048eb9c9a982f70aca57b3c95080ddcf836d5d93ab4ffc6fdddffa3e1d10ac5f809b17b674cba0738ba3964f7a46ce9335ed7b7e9b677c332649519e81694b3490a6c0d func69
def Yi:aC E ⟨100,[.v jk,.v aE,.v aE],[.bool],zH⟩:=aH aF 0x137fa01285e44d1e0174c2860d func100
def aaA:aC E ⟨38,[.v jz,.v aE,.v aE],[wi],zt⟩:=aH (aj Jn (aj PC (aj PB (aj Jm (aj aaW (aj xR (aj OW (aj AF (aj Yi aF))))))))) 0x4ce372c987b2f21ede14ce3467d7e176e19fa372f70820edf0023def0574b749658b4e7610a3217b2c22e8f0feaeaf4690e3b9222f2b490685f125798480478fc44e135908c9f143ab2e1efe1e7e0f395aab11a0adf7fae26f9c541f0655c62508e256a0ac2b87a96df92c35b418f15c81d04cf731d7922bb4d986501359c5f77abda0409b650eef740c43a0158921afa52653b55c830b515e8c62ac37611b5ded3b6255c8cfcdf6be770e1d5ca48536c2860d func38
def YZ:aC E ⟨18,[.v jz,.v aE],[gU],zu⟩:=aH (aj Ji (aj AF aF)) 0x234ec7fd89867c4437f42bce11987e021f92218c37bd4e5bee93d36ad1574e1189dd0058e85a1536b71dbe925704be32809846be9bf06b27a6e88228e95f2d642f65464c965222429b060d func18
def ON:aC E ⟨134,[.v jk],[pF],zG⟩:=aH (aj AA aF) 0xfef023d260ad6452e7260cf4f48a8d7162a9b99f4bacd37e17178bb3f493cb5e0eaea4879c5f018bbb47e69cbd7bc50fe8bb0c11d96cd7f708e754d2990578536c0d func134
def YL:aC E ⟨135,[.v aE,.v aE,.v (.a2 .de n4)],[wi],Dr⟩:=aH aF 0x371ff193cf3fc0cfa1ec98b307b3cbf2d6fa702fc971a6f1f888186cacebc9f94f755502e7a86885ecf97108422cf8c7ae7e63cea7efbf91c939942949dd4fea69c14e5839cdd4a34be939203e47f66450564cd6d2e720d4b74ab61df1649acbb487a9e98b15c332d335c5ac269e43b625815c8c0cdf6be770e1d5ca48536c2860d func135
def Pw:aC E ⟨51,[.v jk],[ua,aE],sG⟩:=aH (aj YL (aj ON (aj AA aF))) 0xf150cdfe5fe3a923bcd72fea59a722058eaacb1254ce4166d1c772db8cc8e784be87ac5ecd2272bc29b6c0d func51
def OO:aC E ⟨136,[.v aE],[wj],zK⟩:=aH aF 0xdfc82467e0d9fb84722a694c90a6c0d func136
def OP:aC E ⟨137,[.v (.a2 .de (.a2 .de .bool))],[BE],zI⟩:=aH aF 0x2fa291a1920f6ec8c280bc232e3965453e53d6c324c10abd6cc97b98d778430dac0269ceedd3dd9d281659a5cdefa49bf489d1800774521ac312d619e7e33cb5c33230451508a1e694b3490a6c0d func137
def Px:aC E ⟨52,[.v jk],[n5,aE],sH⟩:=aH (aj OP (aj OO (aj ON (aj AA aF)))) 0x6cf78da74f226906f4ea204e6f85ca6b4eb16595fcf7eb4861a59d716cb636ae5b71991c9091d0f58bd9a451e14db6c0d func52
def O9:aC E ⟨212,[.v eW],[.bool],zw⟩:=aH aF 0x30a5214c0d func212
def Jc:aC E ⟨214,[.v eW,.v aE],[.bool],sA⟩:=aH aF 0xc414853060d func214
def EN:aC E ⟨138,[.v lp],[aE],uJ⟩:=aH (aj Jc (aj O9 aF)) 0x21b3ec802cac4b24b608f396b0c3542a578536c0d func138
def YM:aC E ⟨139,[.v eW,.v aE],[.bool],C6⟩:=aH aF 0xd89480d660c5e9f759579d61bf8532f9214db060d func139
def Zp:aC E ⟨218,[.v eW,.v aE],[.bool],Ds⟩:=aH aF 0x4f6b0c414853060d func218
def Zq:aC E ⟨219,[.v eW],[.bool],Dt⟩:=aH (aj Jc aF) 0x30a5214c0d func219
def Pa:aC E ⟨220,[.v lp],[wj],zJ⟩:=aH aF 0xb703efaaa9936cfb20a10e668944cb1d7bbc4ba8b9a6bd8625b2d4652391b40b242a578536c0d func220
def YO:aC E ⟨140,[.v lp,.v eW],[n5,aE],Du⟩:=aH (aj Pa (aj Zq (aj Zp (aj EN (aj OP (aj OO aF)))))) 0x1c6a8d6b90b7d9b4a14910fa08291137b6378284e37216ceb0a252989437ace3f34a19308f1a6ddc4598817dd8fbd12093b2d9732d5d489452393323a36e1c3648bbc29b6db060d func140
def Py:aC E ⟨53,[.v lp,.v eW],[n5,aE],q6⟩:=aH (aj YO (aj YM (aj EN aF))) 0x1bc2423828060d func53
def YP:aC E ⟨141,[.v lp],[Gd],Dv⟩:=aH (aj Pa aF) 0x4ca507872a7daa731a2232cab0fd68412cdb299cf06a9b3733afa94e51321d3ffc580b32e81d4c0d func141
def OQ:aC E ⟨142,[.v (.ptr .de (.st (.pr (.a2 .de (.a2 .de .bool)) (.pr (.a2 .de .bool) .nil)))),.v aE],[gT],zM⟩:=aH aF 0x37b000383e5fe082858959575560c7711810a65f2429b060d func142
def YQ:aC E ⟨143,[.m Gd,.v aE],[],zL⟩:=aH (aj OQ aF) 0x10b27fa69338092a4b941ed211787e1ab7e378c6572663404371af2155fa3e0af9c3200e80ea256f3568ed84a33a765ade3c24123285034082439e14c1d func143
def aaP:aC E ⟨54,[.v lp],[(.osl gU),aE],zN⟩:=aH (aj YQ (aj OQ (aj YP (aj EN aF)))) 0xfc11063dcb87bbaa7f1b023ddd77232fd2750a42b1937c82bc29b6c0d func54
def OL:aC E ⟨13,[.v jk,.v eW,.v jz],[F9],uC⟩:=aH (aj Ji (aj aaP (aj Py (aj Px (aj Pw aF))))) 0xb84d09814cb6d4647c12a16f58aadc57e142c0551a3acf0dcb222d39d5c4a9ba193d41e123cf43ce0f83692017bbfb59a59df8fdcb84f68a1d765e310b27c1368e60c868da2d735c6a4c7c7b8a9c4b64aee2f9dbe0b39efeee53de6b7d1c218e2585fc3332690c08f0961b323db7a2d5d8eccb14da8df8e11887ef90e36a0d9979908fa5799a09dc2faf449786faf32dc30ff0c2d34f28886c0f1104c5b0480a2e56620f2b6ac48e5ad31eea72125e4bc29b6db6c2860d func13
def Yh:aC E ⟨10,[.v jz,.v aE,.v aE,.v .bool],[ua,gU,F9],C8⟩:=aH (aj aaA (aj YZ (aj OW (aj AF (aj OL aF))))) 0x40e4afd9160b85a364550d5b20bb82e4a853de9658b0c052530022493fbcfc98b7149c40c6e4d6e9f902fa8a5f4ce17862936c38a0d func10
def Y0:aC E ⟨182,[.v aE,.v aE,.v aE],[.bool],CR⟩:=aH aF 0x2860d func182
def O8:aC E ⟨211,[.v aE],[.bool],sr⟩:=aH aF 0xd func211
def Ja:aC E ⟨200,[.v aE,.v aE],[.bool],ur⟩:=aH (aj O8 aF) 0x60d func200
def ZB:aC E ⟨252,[.v eW],[.bool],CY⟩:=aH (aj Ja aF) 0x30a5214c0d func252
def Y1:aC E ⟨183,[.v jk],[.bool],CP⟩:=aH (aj ZB aF) 0xc4e38401d66b93f29e80930b3bf78f127d54e40fbd6eac4b248cdff8c5060d1e00b4c0d func183
def I8:aC E ⟨194,[.v cZ],[aE,cZ],wO⟩:=aH aF 0xd func194
def vk:aC E ⟨147,[.v cZ],[.bool],nz⟩:=aH (aj I8 aF) 0xd func147
def Y3:aC E ⟨185,[.v cZ],[.bool],GY⟩:=aH (aj vk aF) 0xd func185
def ZC:aC E ⟨253,[.v jz,.c 185 []],[aE],G0⟩:=aH (aj Y3 aF) 0x3195177853060d func253
def Y2:aC E ⟨184,[.v jz,.c 185 []],[.bool],CS⟩:=aH (aj ZC aF) 0x60d func184
def EM:aC E ⟨101,[.v jk],[aE],sx⟩:=aH (aj Y1 (aj Y0 (aj Y2 aF))) 0x67b600800a7b34c0d func101
def Yj:aC E ⟨102,[.v eW,.v aE],[gT,.bool],DG⟩:=aH aF 0x24ba7e56d00a13fd1c6e649549b74dff84c188d32f8afd54b1020cf3dcc1d7726fed04fe9ab949db0f0a6db060d func102
def O2:aC E ⟨186,[.v jk],[pF],wY⟩:=aH aF 0xffa42fc666439e93c588aef5307a40487df8decb96c7d388140c83212c38c63dac169e0af80c5dda3f34e5ebde287f45d879e23ce5ba6bfb8473aac94c8b4af0a6c0d func186
def Z3:aC E ⟨290,[.v (.a2 .de n4)],[pF],GZ⟩:=aH aF 0x68a00d func290
def IZ:aC E ⟨122,[.v aE,.v aE],[aE],uq⟩:=aH (aj O8 aF) 0x60d func122
def Z5:aC E ⟨293,[.v eW],[aE],B3⟩:=aH aF 0x632a2d9d6f0a6c0d func293
def Ps:aC E ⟨292,[.v n4,.v n4],[aE],wZ⟩:=aH (aj Z5 (aj IZ aF)) 0x44484baca6d40def2b0df6a0133753060d func292
def aaq:aC E ⟨329,[.m pF,.v aE,.v aE,.c 292 []],[],zr⟩:=aH (aj Ps aF) 0x1fdca31dde7cb0d8bf34bc3c1d304081ba01abde156dcc56a12968308e8d4d148233fc240beae1c265119b1fcee01a7912ec06fb61d06a528c369ed21e670c0613412180c2c38a1d func329
def aar:aC E ⟨330,[.m pF,.v aE,.v aE,.v aE,.c 292 []],[],C5⟩:=aH (aj Ps aF) 0x618d4d1092b124cd52f05993a6e2203a40c66b8b14bd9add5ea5af44781cf15546dae1a825886c2242b82dc7ebc6c7ab7ca64629fd4829c93800280de8bcc5ca1238a1d func330
def aag:aC E ⟨314,[.m pF,.v aE,.c 292 []],[],G7⟩:=aH (aj aar (aj aaq aF)) 0x37989f703c821cbbc5f48089b3c0428d79ba2d5bd4a208b73ed8741a93cb0db19d4a09848e70d93620914769b0a1d func314
def Z4:aC E ⟨291,[.m pF,.c 292 []],[],G5⟩:=aH (aj aag aF) 0x1d func291
def ZD:aC E ⟨254,[.v (.a2 .de n4)],[pF],CQ⟩:=aH (aj Z3 (aj Z4 aF)) 0x0 func254
def Y4:aC E ⟨187,[.v aE,.v aE,.v (.a2 .de n4)],[wi],CO⟩:=aH (aj ZD aF) 0x959d45da31ed7102809b9a0142053dc3f335aaee3b3355322320a652b1454f9e264022e136aa17af72e9088f5dbbd5332351d063bfd0f6d35eac33b7abac4c38a38504bc0fac0b2f6f07869dc2f816bcd5c9b5f959c9031e7f90692baab0b010c0f72fb6bd57bf8332d723fb3cbf7683cee3680f113a5618198a33039496922ae51ed9585e0a97f9af0bc7eee3ea155817ed8e712dcef21db00ae4745efb5f3faaceae5276f0a6c2860d func187
def Yk:aC E ⟨103,[.v jk],[ua,aE],CN⟩:=aH (aj Y4 (aj O2 (aj EM aF))) 0x1df4337f97f3c33500e9d4b34e440b6203aab2c6b1d5349e5d368e3b96dc664743c784be87e89adecd2632bc29b6c0d func103
def O3:aC E ⟨188,[.v aE],[wj],y9⟩:=aH aF 0xc169ba8367ee11c8ab853234f0a6c0d func188
def Y5:aC E ⟨189,[.v jk],[pF],CM⟩:=aH (aj O2 (aj EM aF)) 0x345b8600d func189
def O4:aC E ⟨190,[.m wj,.v aE,.v aE],[],zc⟩:=aH aF 0x1b90811b875b96fba90abaafbe04f9b237bf78113530a1d func190
def ZE:aC E ⟨255,[.v (.a2 .de (.a2 .de .bool)),.v aE],[gT],Cf⟩:=aH aF 0x948004acb192e60c7711810d05f24c1bc29b060d func255
def O5:aC E ⟨191,[.v (.a2 .de (.a2 .de .bool))],[BE],zb⟩:=aH (aj ZE aF) 0x19b0646c8aac2424bc2bfce5b728325d2f1d7610c5e59c1ac58db9c2ae34926b4bfe5b98679f8cf2d70cc8c114542287c452cd240f0a6c0d func191
def Yl:aC E ⟨104,[.v jk],[n5,aE],y8⟩:=aH (aj O5 (aj O4 (aj Y5 (aj O3 (aj EM aF))))) 0x1cf822550ff7d77877ce66f6c1b636ae5b7199653012123a1e02ab737b34a9bc29b6c0d func104
def Za:aC E ⟨197,[.v eW,.v aE],[.bool],Cg⟩:=aH aF 0x13f44846cbb9863e60a39d3c29b060d func197
def Zd:aC E ⟨201,[.v aE],[.bool],C2⟩:=aH aF 0xd func201
def IY:aC E ⟨113,[.v eW,.v aE],[aE,.bool],uA⟩:=aH (aj Zd (aj Ja aF)) 0x1098cc9b28a3b4db060d func113
def O6:aC E ⟨198,[.v lp,.v aE,.v aE],[.bool],wP⟩:=aH (aj IY aF) 0x8e0e02860d func198
def OJ:aC E ⟨107,[.v lp],[aE],y7⟩:=aH (aj O6 (aj Za aF)) 0x4bd4d424fd40bed2a076cf69658e6c3a9308c83eeb40b7f36760e07f7730cdd4d51aa578536c0d func107
def ZH:aC E ⟨258,[.v lp,.v aE],[.bool],Cj⟩:=aH aF 0x23828060d func258
def ZV:aC E ⟨280,[.v cZ],[aE],Mc⟩:=aH aF 0x209746502b745dc039f07d3 func280
def O7:aC E ⟨210,[.v cZ],[aE],CK⟩:=aH (aj ZV aF) 0xd func210
def aav:aC E ⟨336,[.m gT,.v aE,.v aE],[],C1⟩:=aH (aj Ja aF) 0x38a4b03519c13a64e224dcdca5ab1d58671f6a6e5efc15ef57660e8f36506b24e15fd6d5d47412c43611215352028144b5ef00d873e014130d9eb4879003018400466030b0a1d func336
def aas:aC E ⟨332,[.m gT,.v aE,.v aE,.v aE],[],C4⟩:=aH (aj aav aF) 0xa037a2f317458008e9a7451b130b0185b func332
def aah:aC E ⟨316,[.m gT],[],zq⟩:=aH (aj aas (aj O7 aF)) 0x0 func316
def RZ:jw:=⟨259,[.v eW],[.bool],Ci⟩
def ZI:aC E RZ:=K0.adV bn (sort:=λd=>(zq (d,())).map λa=>a.1) (λe f b=>by obtain⟨a,c,rfl⟩:=fC.1 b;exact aah.2 (e,()) a c)
def ZG:aC E ⟨257,[.v aE,.v BG],[.bool],GQ⟩:=aH (aj ZH aF) 0x60d func257
def Z6:aC E ⟨294,[.v eW,.c 257 [BG]],[aE],G3⟩:=aH (aj ZG aF) 0x3195177853060d func294
def ZF:aC E ⟨256,[.v eW,.c 257 [BG]],[.bool],CW⟩:=aH (aj Z6 aF) 0x60d func256
def Y7:aC E ⟨192,[.v lp,.v eW],[aE],Ce⟩:=aH (aj ZI (aj OJ (aj ZF aF))) 0x23828060d func192
def Y8:aC E ⟨193,[.v lp,.v eW],[n5],Ch⟩:=aH (aj O6 (aj O5 (aj O4 (aj O3 aF)))) 0x18715cf7c5789cb2c9b69bf02e37c46b3d0ab0d91a67ec23bf03771115205fd4aab44e10616d60f396e96c6d5d46e452392123a37717b64961143c29b060d func193
def Ym:aC E ⟨105,[.v lp,.v eW],[n5,aE],za⟩:=aH (aj Y8 (aj Y7 aF)) 0x1bc2423828060d func105
def l1:aC E ⟨226,[.v fK],[fK],iy⟩:=aH aF 0x1a28f318a51a6c0d func226
def th:aC E ⟨239,[.v .bool,.v fK],[cY],lV⟩:=aH (aj l1 aF) 0x21200d func239
def EQ:aC E ⟨168,[.v aE],[cY],ux⟩:=aH (aj th aF) 0xdf530f0123de5733a6c0d func168
def Y9:aC E ⟨195,[.v cZ],[.bool],Cc⟩:=aH aF 0xd func195
def ET:aC E ⟨240,[.v fK],[lq],uB⟩:=aH aF 0x10a00d func240
def I9:aC E ⟨196,[.v cY],[cY],sv⟩:=aH (aj ET (aj th aF)) 0x13eff81bf3c519fa4e0f047e9e9ffe2c0dd4c0d func196
def I6:aC E ⟨177,[],[cG],y4⟩:=aH aF 0x608 func177
def Zs:aC E ⟨222,[.v cY],[cY],Cn⟩:=aH (aj ET (aj th aF)) 0x2e8f139fdf62eff0bf10f98af03cb94add4c0d func222
def xQ:aC E ⟨149,[.v cY],[aE],pV⟩:=aH (aj l1 aF) 0x58600d func149
def Pb:aC E ⟨223,[.v cY],[aE],ze⟩:=aH (aj Pf aF) 0x18db00319516d1e14c0d func223
def ZX:aC E ⟨282,[.v fK],[aE],zh⟩:=aH (aj Je aF) 0xd func282
def ES:aC E ⟨224,[.v cY],[aE],su⟩:=aH (aj ZX (aj l1 aF)) 0x58600d func224
def Pq:aC E ⟨286,[.v fK,.v aE],[fK],wT⟩:=aH (aj l1 aF) 0x25561a988284004635c91aca8599e2f0a6db060d func286
def aaf:aC E ⟨313,[.v fS],[.bool],GR⟩:=aH aF 0xd func313
def aap:aC E ⟨328,[.v fK,.c 313 []],[aE],G4⟩:=aH (aj aaf aF) 0x3195177853060d func328
def aae:aC E ⟨312,[.v fK,.c 313 []],[.bool],zo⟩:=aH (aj aap aF) 0x60d func312
def Pr:aC E ⟨287,[.v fK,.v aE],[fK,.bool],zg⟩:=aH (aj l1 (aj aae aF)) 0xbbe80961156045d82d18e7622afa3a37fab0b3f09b34a95aa7f65628436c8eb47c82b9eb684db060d func287
def Jg:aC E ⟨245,[.v fK,.v fK],[fK],wS⟩:=aH (aj l1 aF) 0xdb4c17e506b0084181cf87f15780fd690b822cf56a736a694e64aef79d79b0e0d1f4400542702a07d3 func245
def Ph:aC E ⟨247,[.v cY,.v aE],[cY,aE],qZ⟩:=aH (aj Pr (aj Pq (aj Jg (aj th (aj l1 aF))))) 0x2c0d40b7824f6784d8b1f0638b6aed0c267a5d26b10ad4f50c1e4140483ac0dd20c78ab926cc6453060d func247
def Pc:aC E ⟨225,[.v cY,.v aE],[cY],y5⟩:=aH (aj Ph aF) 0x12a206e95ad94ccb18d26e4798ccc8a34c0d func225
def AB:aC E ⟨148,[.v cG],[cG,.bool],pU⟩:=aH (aj Pc (aj ES (aj Pb (aj Zs (aj I6 (aj xQ aF)))))) 0x1326d3dddf3a6b7574272efdf39dec77aaf10f35f74536fe341c5335c93633cc66684b4db6c0d func148
def EP:aC E ⟨167,[.v cY,.v aE],[cG],us⟩:=aH (aj AB aF) 0x196325628060d func167
def qc:aC E ⟨106,[.v cZ],[cG],jT⟩:=aH (aj I9 (aj Y9 (aj I8 (aj EQ (aj EP aF))))) 0x4b1eed0378d36dc666172033de6f513426c0d func106
def aaB:aC E ⟨39,[.v jk,.v eW],[(.ptr .bg wl),aE],sI⟩:=aH (aj qc (aj Ym (aj Yl (aj Yk (aj Yj (aj EM aF)))))) 0x5018ebc57ea0905347e1dabe17afcc003ed06288a63946180f7ee1f5c9b4cbb46d42b47ca54170347b73464365fea0eba37415b76f300aa73978eec5622fcfde5343ed275965c844335fe446172956de91f65cb8a27fd6f0273e4889c47fcd3fc925964538d48400b05bd924b4e5415880f4eb014fae491d978b4fb45d4b0aba88dd274cdd4b44d0b55f578d602ddfa21edc28a626132d9ede1c31fd9acfec65d79dbfe4a5d606f1be309200dd565cb46a6db6db060d func39
def Z7:aC E ⟨299,[.v cZ,.v cZ],[cZ,cZ],CL⟩:=aH aF 0x60d func299
def ZK:aC E ⟨260,[.v cZ,.v cZ],[cZ,cZ],GX⟩:=aH (aj Z7 aF) 0x60d func260
def Zb:aC E ⟨199,[.v eW,.v aE],[gT],CZ⟩:=aH (aj ZK aF) 0x4f1df1c7b43d69ee5cbeb6acff078e0b6c79603b14c9a2997259069be51e39053060d func199
def Yn:aC E ⟨108,[.v kq,.v aE],[gT,.bool],DD⟩:=aH (aj Zb aF) 0x8c6b0a4915c00bd6692471aa627386d879118613a822be88c5866006e60ebb93013c46523febc29b060d func108
def Yp:aC E ⟨110,[.v oO,.v aE],[.bool],DF⟩:=aH aF 0x29886fc0076f4bdfe95654edcc34053e6b0a1e14db060d func110
def Yr:aC E ⟨112,[.v kq,.v eW,.v oO],[.bool],DE⟩:=aH (aj IY aF) 0x313b180181daa81aac5eb8bc29b6c2860d func112
def Yo:aC E ⟨109,[.v oO,.v (.ptr .de aE)],[.bool],Ha⟩:=aH (aj Yp aF) 0x57828060d func109
def Ys:aC E ⟨114,[.v kq,.c 109 [(.ptr .de aE)]],[aE],G1⟩:=aH (aj Yo aF) 0x3195177853060d func114
def aaD:aC E ⟨41,[.v kq,.c 109 [(.ptr .de aE)]],[.bool],CT⟩:=aH (aj Ys aF) 0x60d func41
def Yq:aC E ⟨111,[.v oO,.v (.ptr .bg kq),.v (.ptr .de gU)],[.bool],Hb⟩:=aH (aj Yr aF) 0x15e0e02860d func111
def Yt:aC E ⟨114,[.v kq,.c 111 [(.ptr .bg kq),(.ptr .de gU)]],[aE],G2⟩:=aH (aj Yq aF) 0x3195177853060d func114
def aaE:aC E ⟨41,[.v kq,.c 111 [(.ptr .bg kq),(.ptr .de gU)]],[.bool],CU⟩:=aH (aj Yt aF) 0x60d func41
def aaC:aC E ⟨40,[.v lp,.v kq],[aE],uN⟩:=aH (aj IY (aj Yn (aj OJ (aj aaE (aj aaD aF))))) 0x18150ea83acfc35258f27581a39e74c5d1369b7838268caf65751e1fd1a083817c0984d9ac0bda67784ece531e9c3d2cdb68776d62592527f0e85fd0587d05d021347c83152d55954536db060d func40
def Yv:aC E ⟨115,[.v oO,.v (.a2 .de kp)],[gT,aE],CG⟩:=aH aF 0x6fc9e5f6e37f070ceaf6e7f98519f8018dcd9410b424c3745a1cc734aace3ce5b983aee4604f5994948b43c29b060d func115
def Yw:aC E ⟨116,[.v (.ptr .de (.st (.pr aE (.pr lp (.pr (.a2 .de (.fw .de cG)) .nil))))),.v aE,.v aE],[cG],xd⟩:=aH aF 0x19a02860d func116
def Ze:aC E ⟨202,[.v eW,.v aE],[aE],zp⟩:=aH aF 0x3195177853060d func202
def I5:aC E ⟨172,[.v cG,.v cG],[cG,cG,.bool],wM⟩:=aH (aj AB aF) 0x16dfd661c5ccb66bde98b8a9221192db268d4db060d func172
def ER:aC E ⟨180,[.v cY,.v aE],[cY],oU⟩:=aH (aj Ph aF) 0x848060d func180
def OY:aC E ⟨173,[.v cG,.v cG],[cY,cY,aE],y3⟩:=aH (aj ER aF) 0x9093705ab462aadc7bbb83df416ea3999ba9b060d func173
def aad:aC E ⟨311,[.v fS],[.bool],B4⟩:=aH aF 0xd func311
def ZZ:aC E ⟨284,[.v fS,.v fS],[aE],B2⟩:=aH (aj aad aF) 0x60d func284
def Jf:aC E ⟨241,[.v fK,.v fK],[aE],wQ⟩:=aH (aj ZZ (aj IZ aF)) 0x620a429b060d func241
def Pg:aC E ⟨246,[.v fK,.v fK],[fK],wR⟩:=aH (aj l1 aF) 0x913b594e402c0809a80b1171f56a736b342e69c77118d0dc7d3ef92c25e14db060d func246
def I7:aC E ⟨179,[.v cY,.v cY],[cY],uw⟩:=aH (aj Pg (aj Jg (aj Jf (aj th (aj l1 aF))))) 0x398267c5e5cb421c0bf15ec412370d6777027b00ff919578eb969b060d func179
def OX:aC E ⟨170,[.v cG,.v cG],[cG],y0⟩:=aH (aj I7 (aj I6 (aj OY (aj I5 (aj EP aF))))) 0x21e434648060d func170
def Yx:aC E ⟨117,[.m sb,.v kp],[],Cx⟩:=aH (aj Ze (aj OX aF)) 0x4d7eb7f7388a0e93d703f0f116e0d1ca88071de5398f98e789e7b619828025835f549337c3d2b21f3062a44aacb349de825ddc5800acc277de6dac0e127e483ada7b8e7ebc41feabe5600fa57752de1e93180e54aff3e888d164af718ffc3bbc7e83d634c2a36dea5612b34904e3c02256e87fd5be3fa3d944d6a8e9003feae5ec8ef5cc154e4ca4246038d0fd2c6093b61e14c1d func117
def aaH:aC E ⟨43,[.v (.ptr .de (.st (.pr aE (.pr lp (.pr (.a2 .de (.fw .de cG)) .nil))))),.v oO,.v (.a2 .de kp)],[sb,aE],Cv⟩:=aH (aj Yx (aj Yw (aj Yv aF))) 0x79006c4a046b69142cf4fcfd2c095d0c411aff892803a8c831265f9cdf6f83a8c271127dd76b6ea4e1d5f411ebaf3515246d2f593130c451b113bbcd932e301e093c0987fc92005beca2b4328551ca1cba4c9f02122774d5d1e4b75954bb2b0648659be252c7745276b646b749c3ad22a4ae89b9cb78324ca13dc8377d85df53cd56c04492c64f64a4c4e7055a10bcc24f6321c66a40764cb4cd9b6847dd7f3c2950194a4a312761443e7a1f750295ac96edb79a0436c50afaa0438e8f9c9eb17551c278591d7cff4adb627b34bad079d86a39429046b7f389a52a0a3756dfd776285f33ef3ca4da4f46f88c874a6da31e860073087cc0eca1a3070c6b1d28fe13b2d59a1382001406f45e62e536c2860d func43
def EV:aC E ⟨83,[.v aE],[cG],qY⟩:=aH (aj EQ (aj EP aF)) 0x18a00d func83
def OV:aC E ⟨166,[.v cG],[cG],wK⟩:=aH (aj AB aF) 0x18a00d func166
def xS:aC E ⟨61,[.v cG],[aE],mR⟩:=aH (aj xQ (aj AB aF)) 0xd func61
def I4:aC E ⟨169,[.v cY],[cY],uv⟩:=aH (aj ET (aj th aF)) 0x14d10558600d func169
def aaa:aC E ⟨302,[.v cG],[qM],GP⟩:=aH (aj I4 aF) 0xacaa17150fde9cdd00cdd4c0d func302
def aaj:aC E ⟨319,[.v qM],[aE],B7⟩:=aH (aj ES aF) 0x28e0600d func319
def aaw:aC E ⟨344,[.v cY,.v cY],[cY],Co⟩:=aH (aj I7 aF) 0x425628060d func344
def OZ:aC E ⟨174,[.v cY,.v cY],[aE],zd⟩:=aH (aj Jf (aj l1 (aj xQ aF))) 0xb1d628060d func174
def aat:aC E ⟨333,[.v qM,.v aE],[cY,aE,.bool],y2⟩:=aH (aj aaw (aj Pc (aj ES (aj ER (aj OZ (aj EQ (aj xQ aF))))))) 0x1c18518eef2bd6b077e5b23133f662829d83973b2b940fafa2c53c00f0fdbddf7b7bff50820b4cea6db060d func333
def aal:aC E ⟨321,[.v qM,.v aE,.v aE],[cY],B8⟩:=aH (aj aat (aj Pb (aj I9 (aj ER (aj I7 (aj EQ (aj xQ aF))))))) 0x516e67d9c03d4be4b593b527a8a141cf3ec73874347881059210e08bec0ff815cc2e4256ca7579f26ae4cb26c2860d func321
def aak:aC E ⟨320,[.v cY],[aE,.bool],Cl⟩:=aH (aj l1 aF) 0xa7c641ad7f1d2d071bccbdff54d885b951b13e8897972bc29b6c0d func320
def Pu:aC E ⟨322,[.v cZ,.v .bool],[cZ],uu⟩:=aH aF 0x60d func322
def aam:aC E ⟨323,[.v .bool,.v aE],[cZ],Cd⟩:=aH (aj Pu aF) 0x8a2dc93060d func323
def Pt:aC E ⟨301,[.v qM,.v aE],[cZ],y6⟩:=aH (aj aam (aj Pu (aj aal (aj aak (aj aaj (aj I4 aF)))))) 0x1ea87807b3e04826db060d func301
def ZL:aC E ⟨262,[.v cG,.v aE],[cZ],Ca⟩:=aH (aj xS (aj aaa (aj Pt (aj OV aF)))) 0x60d func262
def Jb:aC E ⟨206,[.v kp,.v aE,.v aE],[cZ],sw⟩:=aH (aj ZL aF) 0x2860d func206
def aai:aC E ⟨318,[.v cZ],[aE],B9⟩:=aH (aj I8 aF) 0x107f69059a6c0d func318
def Z9:aC E ⟨300,[.v jz],[.bool],Cb⟩:=aH (aj aai aF) 0x316513c5e14c0d func300
def Pl:aC E ⟨261,[.v cZ],[cZ],wN⟩:=aH (aj Z9 aF) 0xd func261
def PA:aC E ⟨86,[.v cG,.v cG],[aE,.bool],y1⟩:=aH (aj OZ (aj OY (aj I5 aF))) 0x444878060d func86
def Zf:aC E ⟨203,[.v kp,.v aE],[cG,aE,aE],zm⟩:=aH (aj PA (aj EV (aj Pl (aj Jb (aj vk (aj qc aF)))))) 0x588fc0c7e46989ff34ea4ff874136a293cca76335cc91c70abeda2e0d06c6e658ea48ba045260ed1b7d1c9ab649c3c29b060d func203
def Zg:aC E ⟨204,[.v kp,.v aE],[cG],zj⟩:=aH (aj Pl (aj Jb (aj qc aF))) 0x648060d func204
def Zx:aC E ⟨244,[.v fK,.v fK],[fK],Cr⟩:=aH (aj l1 aF) 0x2fc9a11e020c623fde3ecd3f4be637e9993a2a0976f654c3424c58967aaca694e303fe3afed168f9093060d func244
def YY:aC E ⟨178,[.v cY,.v cY],[cY],Cm⟩:=aH (aj Zx (aj th (aj l1 aF))) 0x38bc3f495bb3d89730d0333753060d func178
def xU:aC E ⟨90,[.v cG,.v cG],[cG],ny⟩:=aH (aj YY (aj I6 (aj I5 (aj EP aF)))) 0x1319ea9cf458ab1896b6ab26818f4fdfafcf5929aad2401baacb968d4db060d func90
def Zh:aC E ⟨205,[.v cG,.v cG],[.bool],wV⟩:=aH (aj xU (aj PA (aj EV aF))) 0xe1dc28060d func205
def Yy:aC E ⟨118,[.v kp],[gT,aE],Cy⟩:=aH (aj xU (aj xS (aj Zh (aj Zg (aj Zf aF))))) 0x95245812a0a3df38ebf57b4ecb1a4babfe744d44e861e3a90899d7d2f6ef9cda1db9a3f8a9e0152b992392b3730cb94b1e14c0d func118
def Pm:aC E ⟨263,[.v kp],[gT],zn⟩:=aH aF 0x5e8002f94f0ae607ee1180abe5323af0a6c0d func263
def aay:aC E ⟨350,[.v fK,.v fS],[fK,fS],Cq⟩:=aH (aj l1 aF) 0x10230b9c413d9c26b918d3b27d6f29214db060d func350
def Pv:aC E ⟨326,[.v fS],[aE],uz⟩:=aH (aj Je aF) 0xd func326
def R0:jw:=⟨351,[.w fS,.v fK],[fS],zf⟩
def aaz:aC E R0:=
 .q aF (.k [1] (.n (.n (.t .none (.d [.b [0],.a,.b [0],.b [0],.a,.a,.b [0],.a,.a,.b [0],.b [0],.a,.a,.a]) (.n (.t .none (.o (.k [5] (.p ⟨[(0,.w 0),(7,.v cZ),(8,.v cZ)],[(0,lq)]⟩ (.x 0 ⟨[(0,.w 0),(7,.v cZ)],[(0,lq)]⟩) (.t (.vO [7,8] ⟨[(0,.w 0)],[(0,lq)]⟩) (.t .none (.d [.a,.a,.a,.a,.a,.a,.a,.a,.a,.a,.a,.a,.a,.b [0],.a,.a,.b [0],.b [0],.a,.a,.a,.a]) .l) .l)))) (.n (.t .none (.n (.o (.k [5,7,84,85] (.p ⟨[(0,.w 0),(9,.v cZ),(10,.v cZ),Ks 86],[(0,lq)]⟩ (.x 2 ⟨[(0,.w 0),(9,.v cZ),(10,.v cZ)],[(0,lq)]⟩) .l)))) (.n (.n (.n (.n (.t .none (.n (.o (.k [5,7,140,141] (.p ⟨[(0,.w 0),(9,.v cZ),Ks 142],[(0,lq)]⟩ (.x 4 ⟨[(0,.w 0),(9,.v cZ)],[(0,lq)]⟩) .l)))) .l))))))))))))) func351 call351
def aax:aC E ⟨345,[.v fK,.v fK],[fK,fK],Cp⟩:=aH (aj aaz (aj aay (aj Pv (aj Pr (aj Pq (aj Jf (aj ET (aj l1 aF)))))))) 0x18aeeeedfec8ea0182e7212c918b4d25c414f669368a4637e66e53e6c922f3a78536db6db060d func345
def aau:aC E ⟨334,[.v cY,.v cY],[cY,cY,aE],Ck⟩:=aH (aj aax (aj Pg (aj Jg (aj th (aj l1 aF))))) 0xf788e0cb21542043b401bc9747f2c0e722a5ad9592864d80a9ce054cf7b632a826db060d func334
def aan:aC E ⟨324,[.v cG,.v cG,.v aE],[qM],B6⟩:=aH (aj aau (aj ES (aj ER (aj I4 (aj xQ aF))))) 0x2d553b25a474298294e1aa7de92eec6701da11a33e060d970ef81ccfc0ebba803338937a0666ea6c2860d func324
def EU:aC E ⟨303,[.v cG,.v cG,.v aE],[cZ],ss⟩:=aH (aj xS (aj aan (aj Pt (aj OV aF)))) 0x57bd99e6dacfaac797f32a792d67b8db2a141d202d2ede8d4c2860d func303
def Po:aC E ⟨268,[.v (.a2 .de cG),.v cG],[qN],oW⟩:=aH (aj xU aF) 0x3a4a66f7e0931dc46c42f97c8e735bc29b060d func268
def YX:aC E ⟨171,[.v cG],[cG],B5⟩:=aH (aj I9 (aj AB aF)) 0x93c00cf192331ba6c0d func171
def Jl:aC E ⟨85,[.v cG,.v cG],[cG],wL⟩:=aH (aj YX (aj OX aF)) 0x47b452bee004bcf2b753060d func85
def Pn:aC E ⟨267,[.m sb,.v eW,.v (.a2 .de cG),.v (.a2 .de cG)],[],pW⟩:=aH (aj xU (aj Jl aF)) 0x1df4ec24225ed6d23853449b6ba86f6015a49eb3cc6a16100ebbb3039beafd16394c3c0e945c8fc0bf9d0fb12faad8742398030ddda31ed7b4d0f46d0c0613c13980c36cd2c38a1d func267
def ZN:aC E ⟨265,[.v aE],[cG],CD⟩:=aH (aj EV aF) 0x18a00d func265
def ZO:aC E ⟨266,[.v kp,.v eW,.c 265 [],.v cG],[wk,qN,aE],GS⟩:=aH (aj EU (aj ZN (aj vk (aj qc aF)))) 0x110edc05890329cfb891e901349a2b11286e4e1da761e9463519443f16cd2e312022052e81deec4c21f6d3b9d8d628dc0976d2a9bbb4e1eb89ab0af6c30ead0ac6a803630b4c2b01821dc12a599684c3c2b15bad91576eace834e39cc72dd0b848be79179ab611a49992c2ea285d33dd1205e24d51dde14db0e2860d akX
def ZM:aC E ⟨264,[.v aE,.v (.ptr .bg kp),.v (.ptr .bg aE)],[cG],CC⟩:=aH aF 0x32efc6f7e0f204cdd4c2860d func264
def ZP:aC E ⟨266,[.v kp,.v eW,.c 264 [(.ptr .bg kp),(.ptr .bg aE)],.v cG],[wk,qN,aE],GU⟩:=aH (aj EU (aj vk (aj qc (aj ZM aF)))) 0x110edc05890329cfb891e901349a2b11286e4e1da761e9463519443f16cd2e312022052e81deec4c21f6d3b9d8d628dc0976d2a9bbb4e1eb89ab0af6c30ead0ac6a803630b4c2b01821dc12a599684c3c2b15bad91576eace834e39cc72dd0b848be79179ab611a49992c2ea285d33dd1205e24d51dde14db0e2860d akX
def Zi:aC E ⟨207,[.m sb,.v aE,.v cZ],[(.osl mf),aE],CB⟩:=aH (aj EV (aj xS (aj Po (aj Pn (aj Pm (aj qc (aj ZP (aj ZO aF)))))))) 0x8a17e9f13b5ca7b18d7c88dcc46098fd8c3d0a5ca71f7e35ebc60e0916a764cff978abe49c9a29612ec91cb5b47a3f7847c6a35999ce961406ada1da9b0a1d func207
def Jj:aC E ⟨62,[.v (.a2 .de cG)],[cG],wU⟩:=aH (aj xU (aj Jl aF)) 0x5ec6547812c55d1cccdd4c0d func62
def Pp:aC E ⟨269,[.v aE,.v aE,.v aE,.v cG,.v cG,.v (.ptr .bg kp)],[cG],zl⟩:=aH (aj xU (aj Jl aF)) 0x1758e808151921459c5a34a403333337531648e2860d func269
def ZS:aC E ⟨270,[.v aE,.v (.ptr .bg (.fn 269 (.pr (.ptr .bg kp) .nil))),.v (.ptr .bg aE),.v (.ptr .bg aE),.v (.ptr .de nj)],[cG],Cz⟩:=aH (aj Pp aF) 0x137b461f07c441ccdd4c48e2860d func270
def ZQ:aC E ⟨266,[.v kp,.v eW,.c 270 [(.ptr .bg (.fn 269 (.pr (.ptr .bg kp) .nil))),(.ptr .bg aE),(.ptr .bg aE),(.ptr .de nj)],.v cG],[wk,qN,aE],GV⟩:=aH (aj EU (aj vk (aj qc (aj ZS aF)))) 0x110edc05890329cfb891e901349a2b11286e4e1da761e9463519443f16cd2e312022052e81deec4c21f6d3b9d8d628dc0976d2a9bbb4e1eb89ab0af6c30ead0ac6a803630b4c2b01821dc12a599684c3c2b15bad91576eace834e39cc72dd0b848be79179ab611a49992c2ea285d33dd1205e24d51dde14db0e2860d akX
def ZT:aC E ⟨271,[.v aE,.v (.ptr .bg (.fn 269 (.pr (.ptr .bg kp) .nil))),.v (.ptr .bg aE),.v (.ptr .bg aE),.v (.ptr .de nj)],[cG],CA⟩:=aH (aj Pp aF) 0x137b461f07c441ccdd4c48e2860d func271
def ZR:aC E ⟨266,[.v kp,.v eW,.c 271 [(.ptr .bg (.fn 269 (.pr (.ptr .bg kp) .nil))),(.ptr .bg aE),(.ptr .bg aE),(.ptr .de nj)],.v cG],[wk,qN,aE],GW⟩:=aH (aj EU (aj vk (aj qc (aj ZT aF)))) 0x110edc05890329cfb891e901349a2b11286e4e1da761e9463519443f16cd2e312022052e81deec4c21f6d3b9d8d628dc0976d2a9bbb4e1eb89ab0af6c30ead0ac6a803630b4c2b01821dc12a599684c3c2b15bad91576eace834e39cc72dd0b848be79179ab611a49992c2ea285d33dd1205e24d51dde14db0e2860d akX
def Zj:aC E ⟨208,[.m sb,.v aE,.v aE,.v jz],[(.osl mf),aE],zk⟩:=aH (aj Jj (aj Po (aj Pn (aj Pm (aj qc (aj ZR (aj ZQ aF))))))) 0x220f838017cabcc38d878864832136ef3705b21222f92856b512d000ac6106dd11d7fd766c0ee7cdd1327c41821491f59bcb4d64e439477f40f33e7f9836363caab8dc72c67b37f903bbd26805f5ced22f4be8a5de809fd2db119dd3276eb914db624487400f6a296a30d4d13e4f43eff5f9c67dbfbaa2f4af39744c7fc7fe6ed2de915ec27b66e93b65d573b6a9d0794e3676424f1cee3b8566c3e45666ea6c38a1d func208
def Yz:aC E ⟨119,[.m (.optr BH),.m sb,.v eW],[aE],CH⟩:=aH (aj Zj (aj Zi (aj Jb aF))) 0x171e5c0d980f51515dfe713bf7bf1998ef583f32159c176172d22ac1c32788fffdecc426808b436db260497d926041bf98c4a80fa01fec211753fdf0aabfa8a69f79cb72448212a619dde991fa5577ac0fdfaa074cc49092bd5c7cfc90a5bff7b9eb418aa8505b5f1fe26481e08e7fb4e56b0bc20f7ce47190fa6dffd26f600515e958bac3d88dac24daebef5c721c25c32a62774a4d804f42e2a2f5291949fdc68d36d942cc33cac69f7622513414d7a452c323f1974748640655bdca2b4516da4356b826ff2b1476bb37c940347b4b3f26b68e74894c355e06c9045feda2aa6a9abf2c8ac32e03fc4c07e34ea4e3a75e8897f0708e30132137ca2d87fb4c742f65f1da0d561896e673f1676d63850054424626a5cd247681d66ac6c1252f0a6c2d func119
def aaI:aC E ⟨44,[.m (.optr BH),.m sb],[aE],CJ⟩:=aH (aj Yz (aj Yy aF)) 0x163fc65b80ff711c9112fdf745fa6cc48f05b0ff526cab8d6482a8d9a3c7cca2139475a43b6b1c24a2126b491da061b048d3 func44
def YC:aC E ⟨121,[.v aE,.v aE,.v (.ptr .de eW),.v (.ptr .de mf)],[aE],uy⟩:=aH (aj IZ aF) 0xe2860d func121
def ZU:aC E ⟨272,[.m gT,.v aE,.v aE,.c 121 [(.ptr .de eW),(.ptr .de mf)]],[],G6⟩:=aH (aj YC aF) 0x1fdca31dde7cb0d8bf34bc3c1d304081ba01abde156dcc56a12968308e8d4d148233fc240beae1c265119b1fcee00a0512ebfc0361cf80528c369ed21e400c0610012180c2c38a1d func272
def Zk:aC E ⟨209,[.m gT,.v aE,.v aE,.v aE,.c 121 [(.ptr .de eW),(.ptr .de mf)]],[],C3⟩:=aH (aj ZU aF) 0x280de8bcc5d160023ae9d546c4c2c0616c4d func209
def YB:aC E ⟨120,[.m gT,.c 121 [(.ptr .de eW),(.ptr .de mf)]],[],C0⟩:=aH (aj O7 (aj Zk aF)) 0x1d func120
def aaJ:aC E ⟨45,[.v (.ptr .bg (.st (.pr (.ptr .bg wl) (.pr gU (.pr gU (.pr (.a2 .bg cZ) (.pr (.a2 .bg mf) (.pr aE .nil)))))))),.v eW],[F8],CI⟩:=aH (aj YB aF) 0x3762376f90e937bf32923b94339d468b45194bf042a6aeca05cb89bb7c97cd05c5c313825edf5c520f44146c996c0adc28cf289677f0dbf2c40a90f48ca0b26f2dda8d320e78181d004631001629b6d22ed9555bd5285a128b6fdd9008a6d7a8aeae178af1497a0a4f3de68d38a5e89276376da3803c6dd1f04123c57ca9f2bbac6ecf2bc22b839735be1e947febc823c6611e57409605c1d08d38e7250e960e829aaa5a950ffbd9448d5bb50806be1d68ab82a4ee0203ccbc94040ba624502865cb2608b5f5a5de5a9da44f79cc5b819e982928b8ded8f98ab1bee883a5a7ca1b0faea441d079e739b17af895fc886812c2b5815132107f3871b458be6862e42bf42a3ebf326fa3f72a76d1848a4860d3fd36a7b8d08063c94eaaf00489cb9e461ae33c99104ae30fa09759129a12140dd5ff3e986df9613916cc559ba9b060d func45
def aaG:aC E ⟨42,[.v oO],[.bool],Ct⟩:=aH aF 0x15e0600d func42
def Yu:aC E ⟨114,[.v kq,.c 42 []],[aE],CX⟩:=aH (aj aaG aF) 0x3195177853060d func114
def aaF:aC E ⟨41,[.v kq,.c 42 []],[.bool],CV⟩:=aH (aj Yu aF) 0x60d func41
def OK:aC E ⟨11,[.v jk,.v eW,.v kq],[yG,aE],oV⟩:=aH (aj aaJ (aj aaI (aj aaH (aj aaC (aj aaB (aj aaF aF)))))) 0x677b18c73febb7e95d3b3a249372fb147b80513e233de7947242663d62a9d1511677f54dd058830338ddf58631ab0e77fa81abeee61e96ff9fef94e969ce4734237e9a022aad77438a3798c955b70b7ad012710abc894d2d57d83ef20a4a736b399e524c1df77790bfd5214e2da6eacf9db5712774b5cd062716dba0c4f3b2303f0760772262bf96e2542fa40aeda6599088d058345ee658f9e21dda457264054b1da8a0b49c7d5448172907759c57a78536db6c2860d func11
def aaU:aC E ⟨63,[.v eW,.v aE],[.bool],Dy⟩:=aH aF 0xd89480d660c5e9f759579d61bf8532f9214db060d func63
def aa0:aC E ⟨94,[.v jk,.v eW],[aE],Dz⟩:=aH (aj aaU (aj AA aF)) 0x2e28060d func94
def YE:aC E ⟨124,[.v jk,.v eW],[n5],Dx⟩:=aH (aj Py (aj Px (aj Pw aF))) 0x378986f0f07e161bc26e28060d func124
def Zl:aC E ⟨213,[.v kq,.v aE],[aE],zO⟩:=aH aF 0x9f3f85cf6b0c414853060d func213
def YD:aC E ⟨123,[.v lp,.v kq],[aE],w6⟩:=aH (aj Jc (aj Zl (aj O9 (aj EN aF)))) 0x1e5ec134f82c41aa06e4c9878b2f2b25acc7a6ef8f99cc5911cfa735238c3174344edba94f5b3638490c0f4c8f2fd70998c9b289d0f0a6db060d func123
def aaK:aC E ⟨46,[.v jk,.v eW,.v kq],[aE],w9⟩:=aH (aj aa0 (aj YE (aj YD aF))) 0xcffc00c7148536c2860d func46
def aa1:aC E ⟨95,[.v jk,.v eW,.v aE,.v aE],[cG],w8⟩:=aH (aj PC (aj xR aF)) 0x346e480e2860d func95
def I1:aC E ⟨125,[.v eW,.v aE],[aE],q7⟩:=aH aF 0xc414853060d func125
def OT:aC E ⟨164,[.v cG,.v cG],[cY,cY,aE],sE⟩:=aH (aj rC (aj AD aF)) 0x5699f80d1eec097150bd924eb57b7e0810b977965f213bd417b6307c71a00e450883615928d97be4f301841b0d8c0fb737e2abf97673addc1efa06161f4793c1b95b1df7b488a0d4fff140f2e52b753060d func164
def Jk:aC E ⟨80,[.v cG,.v cG],[cG],sC⟩:=aH (aj tj (aj xT (aj rD (aj OT (aj AC aF))))) 0x14352382663baf7b2d8d482bfbe52b0f77e648441a437650dbc569171ac7ba4ba5a353060d func80
def aaL:aC E ⟨47,[.v jk,.v eW,.v kq,.v aE,.v (.a2 .de qL)],[(.st (.pr gU (.pr aE qK)))],DA⟩:=aH (aj aa1 (aj Jk (aj I1 aF))) 0x99cd41bd709549b1866c444fa10ba53722f023922cfd11d26e2975efeabd0717910112dbcaf4dee3ef3dbbf6052c008bc15e1a8441c2ebda7613f2c85cf188010512a4a9ca331e0762092122d889f9616663d9aeb4049682f25a3b92562e133620027dd15d954ce2d7bfea0e0b663cdd394a86788849af7bfede8fdbd7432dd9134a07e1b69e46d66f1f181f3abe0de8dd5d9b12acb4c52c67d3c1693b756ad1c467b793e67ce5863af4b4693b91f023c6c27b8980fff9fcb4ea881c783b5aa50fd33b98689712ae24356a946d613acaf9acc82d36b9bffb1e62b6f0f03ae424b4c0ed622d1a95c1a7234934232087608549f6f749d02b47ac3a131bf86526b03fdee6e4912baba8665d8a0e8c67d8c22779a2ff3ac8466e4185cf35c22dd76de884eeb3c4b549d31c4425ee01c9b7a4fe198b29e9b6a03c3f1adb5e2d34fb4a5142457c1b371e87b5abc1326e7529afabdd549a767002772a3a939e3ba48a957e3b664e8ec61819bcd9fdb21d9df616fd878c1c6c7a26ff16a5b9e0aed4fc7bdf283315d6c1f89a82d95cc3165e780b5a8a34194aa946ee42468b21fee6485a23532019f2ba57e62000cbb756741a71ce2a534df76b905d6b88cfe91ec8f4177fca82fd222f0a6c48e2860d func47
def OM:aC E ⟨130,[.v cG],[cZ],uK⟩:=aH (aj Jn aF) 0x70600d func130
def YF:aC E ⟨126,[.v qL,.v aE],[qN,.bool],zT⟩:=aH (aj PB (aj AH (aj xR (aj OM aF)))) 0x929a7639e5a093aee4cc4eb194843c29b060d func126
def Z0:aC E ⟨285,[.v cY,.v cY],[aE],C9⟩:=aH (aj rC (aj I2 aF)) 0xb1d628060d func285
def Zw:aC E ⟨242,[.v cG,.v cG],[aE,.bool],Dg⟩:=aH (aj rD (aj Z0 (aj OT aF))) 0xa2dccca1eaab1a92bca6561ebc8434c7650dbc569171ac7ba4ba5a353060d func242
def O0:aC E ⟨175,[.v cG,.v cG],[.bool],zP⟩:=aH (aj Zw aF) 0xe1dc28060d func175
def YG:aC E ⟨127,[.v (.a2 .de cG),.v aE],[cG,aE],xb⟩:=aH (aj O0 aF) 0xde01aa5cd2d76243730cd4217f90efd50916f584b81ff6c3e2e7ead595aa920a5d148c39c6db26c64d92429b060d func127
def ZJ:aC E ⟨26,[.v cG],[aE],Dk⟩:=aH (aj rD (aj rC aF)) 0xd func26
def Zt:aC E ⟨228,[.v fK,.v fK],[lq],Df⟩:=aH aF 0x991f1c4b5d2359af0aa155ed3d69cd6217c51417e037f3380b4cead114a2c312d69c77118d0a65f2429b060d func228
def YW:aC E ⟨152,[.v cY,.v cY],[cY],Dc⟩:=aH (aj vl (aj Zt (aj tg aF))) 0xe288c107e707dad256ecf62607a8de5b2b231883fd56f8c90554506d1a3ed3dbbe84c73753060d func152
def AI:aC E ⟨68,[.v cG,.v cG],[cG],j8⟩:=aH (aj tj (aj xT (aj rD (aj YW aF)))) 0x5bca1a1a1b6fd6b038bdec9319b6dca3b8a73546ea8e3770f3ce3386e406f7b2d8d449157e52b0f77e648441a437650dbc569171ac7ba4ba5a353060d func68
def YH:aC E ⟨128,[.v cG,.v cG],[.bool],xc⟩:=aH (aj Jm (aj AI (aj O0 aF))) 0xe1dc28060d func128
def aaM:aC E ⟨48,[.v qL],[gT,.bool],zS⟩:=aH (aj AI (aj ZJ (aj YH (aj YG (aj YF aF))))) 0x286e015c5c76ab098089573c77d37811a1d0e2dcc683f91d4becfbf8bd0a3f7978854424fce3b6f599cde11bc5e2a86c5f323954db90809efe4c71c1eb0c35415e14c0d func48
def YI:aC E ⟨129,[.v qL,.v eW],[(.st (.pr gT (.pr aE qK)))],DC⟩:=aH (aj I1 aF) 0x30e9270c35817776ee3d4738a67ab9e5cef4f35be948beb48badf56e73f86d946cccff1a26c1f61178f4d124523363f16d2851b8aa48c71a85ed1b600a40200c948ac777552baa8f6c2b87fdc74306fd4738a8fddda959f755ad4fa46e4523ce29b6997b64843c29b060d func129
def Zm:aC E ⟨215,[.v cZ],[.bool],Dw⟩:=aH aF 0xd func215
def aao:aC E ⟨327,[.m lq,.v fK,.v aE,.v cZ],[.bool],zC⟩:=aH aF 0xf0a0adeb50e6ebf2ad86f23894c490c05e54378a0ea15fd25fdc59f62befaf164192b53d914ea3ec848c6fcc1d07e5ff17f3048ebc29b6c38a1d func327
def aac:aC E ⟨310,[.v fK,.v fK],[lq,fK],De⟩:=aH (aj aao (aj Pv (aj Jd (aj Pe (aj Pd (aj vl aF)))))) 0x8018533076f68138afa4468455caba646cb0ef5eb57135662362eb2973e27ddf662dc5ad777b9f30707300b87b4fc6760442541cfdcc841408b7aa4b0073435a117078a8d19db7a041ff764ab4512376632f717034e2f76916e989ab7f9572c12fd09144376ae61f132820e232fbfd66ce941ce999e183ebce750674382ea6db060d func310
def ZY:aC E ⟨283,[.v cY,.v cY],[cY,cY],Da⟩:=aH (aj rC (aj aac (aj tg (aj AG (aj I2 (aj EO (aj AE (aj AC aF)))))))) 0x30e09c6ce10f7629603d184fa07b598bb7eea1a2f7a71ee86ac9b72798e75c9567854fcc6cbe5057531e509956c92d833ce44cdb0cfcaeb9c2fe9f56e5ac9a0fe103d84f58ba6de0d646b9dc503b1eda889846cd2c3ca4648bc569171ac7ba4ba5a353060d func283
def aab:aC E ⟨309,[.v cY,.v cY,.v aE],[cY,aE,.bool],Dj⟩:=aH (aj rC (aj ZY (aj I3 (aj AD aF)))) 0x7e8da900057e38b6338b88ce4bab90dd5954f761c98bff470f1566ea6c2860d func309
def ZW:aC E ⟨281,[.v cG,.v cG,.v aE],[cZ],Dp⟩:=aH (aj rD (aj rC (aj aab (aj O1 (aj AG aF))))) 0x22cea627a5bc3cf8668f1ec726fb9550b02ba73d3b961a4833f32a792d67b8db2a141d202d2ede8d4c2860d func281
def Zn:aC E ⟨216,[.v cG,.v cG],[cZ],w7⟩:=aH (aj ZW aF) 0xe1dc28060d func216
def aaY:aC E ⟨81,[.v cG],[cG],Di⟩:=aH (aj tj (aj rD (aj OU aF))) 0x2771e6eff1011974c90a38b2ee992d3a3536c0d func81
def Jh:aC E ⟨29,[.v cG,.v cG],[cG],uI⟩:=aH (aj aaY (aj Jk aF)) 0x47b452bee004bcf2b753060d func29
def YV:aC E ⟨151,[.v cZ,.v cZ],[cG],zQ⟩:=aH (aj AI (aj xR aF)) 0x648060d func151
def aaV:aC E ⟨65,[.v jz],[cG],zR⟩:=aH (aj Jh (aj YV aF)) 0x5ec6547812c55d1cccdd4c0d func65
def YJ:aC E ⟨131,[.v BF,.v qL,.v eW,.v aE],[(.osl cZ)],uM⟩:=aH (aj AI (aj aaV (aj Jh (aj xR (aj Zn (aj Zm aF)))))) 0x9359cbdc4041679b27a7b8e3a5e477c3e706aa3dc636352a2892be3ac84f784776a51e74d01df92ec712630c79c7aaf8fe27188cf11fbbf10cd2e9de355dd2c05c9e30e06c73502f869d4a16f8ba1a19a9c3143eb87085ee3fa24140a9f0323d691eb3090f3c666e8bd7cbaa909a8b3a40dfde2a85c83df4eda9664b9dec1afb1d4726300f89701337530e2860d func131
def YK:aC E ⟨132,[.v BF,.v aE,.v aE],[cG],uL⟩:=aH (aj Jk (aj AI (aj xR aF))) 0x16e4a95a6d5179be45717353de6e6cb27a789fe28f446daae977becb2f0bf4c9e393777be1e35d4834f0744a2221a5eacedbf9045e25d05c5bb2b118c022bb69d113757d8c4d659e7b5ed625fcd043398d10aa56a8ca84936e8c98a48e46cd89dc6fc01ecb50f9e28dde8030c8aea0190f77c35ae3bb0bb96acccdd4c2860d func132
def aaN:aC E ⟨49,[.v qL,.v eW],[(.st (.pr gU (.pr aE qK))),F7,.bool],xa⟩:=aH (aj Jh (aj AH (aj YK (aj YJ (aj OM (aj YI (aj I1 aF))))))) 0x1faeda5578c63bf2ce499b7035ac67b129a8291b82076c2bf8bcd726c2abeea8d168e03562209936454c76fd0c1bb43ff6c1177dcfdd136b8fdd9c1f3284bb2e8bbab5e680705f5eb000b204a630dd2e0985688494bfc427e0c61aadebf8d721fafd8fa7025bc76f87da83c3a1fbed92a605da1c3373755841ffb0f15906cdca9c672ee9acacc34921dec58d67f7918f5bcc1efc8a0ea0812f2a91bce4c4562cd36da2f37d66a5a7274e43c5c6a71b90ccf2fd96aa6d322812cb2e1093546e10d4ff17997fb80ee6e6e56a8bf8eccdee75cdf13349b53e1acbd5c7cd5fdaea45f6861677acc06f367d386ef4a244a74359afd89b9444041fb45bd73902c0cf28f0499e4cb8eabf17257add45ea545e5374c4655e95f49dbc9cf2b2787d6b20cacb4deda272f1a72e5d04f43c62bc6cb24b27ccaae39318d7f9a801a4e9bc19d616ef25da6a3ecac18e9e7cbc7441085ad63d3ea4ffa6d6cd78c3bca2559b74cd6b0fea2572030688f4d48e6730692512844a6c0edbc3bd62b2c5ea896ca0e0e5edd686352b2a4a652ccf6c2db3841d59ed8437334f2c9252a5813916c65a3c3d83125ff49b060d func49
def aaO:aC E ⟨50,[.v eW,.v (.a2 .de BF),.v aE],[F6],DB⟩:=aH aF 0x2baed8599d6aaea2c3d296b35625fc76031350393741c01449c7f1d904f9d34fc3feea03ad6914c95a023bbb35d537b8cc5e377ae078084c85bb5a559e444c92273d7a5f7a626c7bff5878d2bbf49561f23f7e5d86c74a7bc48211e39c3225f11377b28e873b1594846b50785bbbce5a4297cd4f4795550350e416fd2baae4466259609faa201ac40e20c634fc6de76e9bc72f9d4e88183d0b85641b34f02f4368aa3c034fc877bd175f26f94c5ae90fed073aae5aa1fcf13660a5818d2b56bfa75ff571a05fe21ad0050f1163e8fa9d846f86608eb0af3a89379e255581df4792c8b09f87a1c6d17bd91f21b284d3f9b1b2a30a726bf4bdd585aac507ede3426bdc0578f22a9b9a5bc985108872863c4f9d2516947190b026e417da9d3520f811fffea6eb023cc66e6d800e0fab9191c22fb94c5bd15c9ba3cbeedbf728e6eff761bb874e9744b646ef7a0c29ea13dee08786819a86e9f28939688ea80d24e0baefc779c621d65697c88df96dfc1190fbfb76b1a617e8a1192d064ce2be355c572508a13c046d2693f98553a24a786ef817d3361d9b057ae683f7c7169241c0cf658e13585cd7807c92264d9dad7d2932af6219df3a8af4631561bb08db6d644633625815c8f9cc1766770e1d5ca48536c2860d func50
def YA:aC E ⟨12,[.v jk,.v eW,.v kq],[yG,aE],pZ⟩:=aH (aj aaO (aj aaN (aj aaM (aj aaL (aj aaK aF))))) 0xf2f1112d7c4eeba12535f2a4d350869664cf067e8ea4642a8df82efe32fffa6af373a2ec8f2394b0d2cc99d844b3e544a951d1ad88eebb83b1904644334816e531c5f08f2da780b353976b085aef0ac93197b296143cca8bdd23ad73a5039865dd3b875c1455d51d825cb5b5bde887769aed5c988f4fd669c82d27a0d8c047cf6e5216f0a6db6c2860d func12
def Pj:aC E ⟨25,[.v eW,.v eW],[.bool],q0⟩:=aH aF 0x620a429b060d func25
def aaQ:aC E ⟨56,[.v jz,.v jz],[.bool],zx⟩:=aH aF 0x620a429b060d func56
def YN:aC E ⟨14,[.v sd,.v sd],[.bool],zv⟩:=aH (aj aaQ (aj Pj aF)) 0xdc1c1b828060d func14
def aaR:aC E ⟨57,[],[ua],Md⟩:=aH aF 0x1922242481f808 func57
def YS:aC E ⟨145,[.v eW],[.bool],CE⟩:=aH aF 0x6ba8406adebe0e457cfca803730dfab114c8ffaf0a6c0d func145
def aaZ:aC E ⟨91,[.v sd],[gT,.bool],CF⟩:=aH aF 0xc302d214835e59c33ecf5c889fdad5548253bbaa9e0008a59765fa168b78f7c6be4461eb658c806f73051e642149806e533302c922fe578536c0d func91
def YT:aC E ⟨146,[.v sd,.v eW],[.bool],Cw⟩:=aH aF 0xc64b41340b9ba1fa37e849f6b4d70853c93229cdd3c1682924e1bf1d173eab756259241effc1a8258147968f010a29b060d func146
def Pz:aC E ⟨60,[.v sd],[K3],zi⟩:=aH (aj qc aF) 0xfa856eb86fb21de77a857001e286685c0e87254506c5130ed865cb76cff709115622d2991ff2578536c0d func60
def aaT:aC E ⟨59,[.v sd],[aE],Cs⟩:=aH (aj aaZ (aj Jj (aj xS (aj Pz (aj vk (aj YT (aj YS aF))))))) 0x628d0a0687afe1cf0c1d85dabb9570da4ab526cca7e92e48a0c96ff0de32fb7937b054bc8304f41a6c650aeee14c948776881bbe89f0904e1825ad7931391e9259175c244eb4043c805a6c0d func59
def Y6:aC E ⟨19,[.v sd],[BC,aE],Cu⟩:=aH (aj Jj (aj xS (aj Pz (aj aaT aF)))) 0x2aba805712e59fcc08b81856eaab863ff361f2eea02073e38eea9a6a2ebad14b6e33244aae45c3fa536f6693878536c0d func19
def YU:aC E ⟨15,[],[.bool],C7⟩:=aH (aj aaR (aj Pj (aj Y6 (aj OK aF)))) 0x84c21c1c17818 func15
def vY:jw:=⟨3,[.v jz,.v aE,.v aE,.v .bool,.v jz],[.bool],G9⟩
def Z8:aC E vY:=aH (aj YU (aj YN (aj OL (aj YA (aj OK (aj Yh aF)))))) 0x15e4a001c52bed8179582f2718e4a0bc84178e8c71b07e2e048e2860d func3
end
def aU (a:X):Z:=4294967296^a
def ag:aif->Z
 |[]=>0
 |x::a=>x+4294967296*ag a
def aQ (b:aif):Prop:=∀a∈b,0<=a/\a<4294967296
def aQ.nil:aQ []:=λ_ a=>by cases a
theorem aQ.cons:aQ (a::c)↔(0<=a/\a<4294967296)/\aQ c:=by
 constructor
 ·exactλe=>⟨e a (nc ..),λd b=>e d (hW _ b)⟩
 rintro⟨f,g⟩ d b;rcases fR.1 b with rfl|b
 ·exact f
 exact g d b
def aQ.append:aQ (c++f)↔aQ c/\aQ f:=by
 constructor
 ·exactλd=>⟨λb a=>d b (r4 _ a),λb a=>d b (lm _ a)⟩
 rintro⟨e,g⟩ b a;rcases h9.1 a with a|a
 ·exact e b a
 exact g b a
def aQ.snoc (b:aQ c) (d:0<=a) (e:a<4294967296):aQ (c++[a]):=
 aQ.append.2 ⟨b,aQ.cons.2 ⟨⟨d,e⟩,aQ.nil⟩⟩
def aQ.take {a:aif} (b:aQ a) (d:X):aQ (a.take d):=λe c=>b e (wb c)
def aQ.drop {a:aif} (b:aQ a) (d:X):aQ (a.drop d):=λe c=>b e (List.mem_of_mem_drop c)
theorem aQ.lL (a:X):aQ (bJ a (0:Z)):=λc b=>by grind
def aQ.set {c:aif} (d:aQ c) {e:X} {b:Z} (g:0<=b) (h:b<4294967296):aQ (c.set e b):=λf a=>by
 rcases List.mem_or_eq_of_mem_set a with a|rfl
 ·exact d f a
 omega
def aQ.get (a:aQ c) {n:X} (b:n<c.length):0<=c[n]/\c[n]<4294967296:=a _ (cR b)
theorem fN (a:X):0<aU a:=m9 ab
theorem hV (a:X):aU (a+1)=4294967296*aU a:=by unfold aU;omega
theorem tF (a b:X):aU (a+b)=aU a*aU b:=li ..
theorem yk:aU 0=1:=rfl
theorem l6 (a b:aif):ag (a++b)=ag a+aU a.length*ag b:=by
 induction a with
 |nil=>simp[ag,yk]
 |cons d a c=>
  grind [List.length_cons,hV,ag]
theorem qq (a:aif) (b:Z):ag (a++[b])=ag a+aU a.length*b:=by grind [l6,ag]
theorem e7 {l:aif} (a:aQ l):0<=ag l:=by
 induction l with
 |nil=>exact ajg _
 |cons c l b=>
  grind [aQ.cons,ag]
theorem g5 (a:aQ c):ag c<aU c.length:=by
 induction c with
 |nil=>decide
 |cons d c b=>
  grind [List.length_cons,hV,aQ.cons,ag]
theorem ip (a:b<c.length):ag (c.take (b+1))=ag (c.take b)+aU b*c[b]:=by grind [qq,air,ajz,cr,bS]
theorem oC (b:aif) (a:X) (c:a<=b.length):ag b=ag (b.take a)+aU a*ag (b.drop a):=by grind [l6,air,ajz,ajM]
theorem mF (a:b<c.length):ag (c.drop b)=c[b]+4294967296*ag (c.drop (b+1)):=by rw[v8 a];rfl
theorem pg (a:X):ag (bJ a (0:Z))=0:=by
 induction a with
 |zero=>rfl
 |succ a b=>grind [ag]
theorem mG (d:b<c.length) (a:Z):ag (c.set b a)=ag c+aU b*(a-c[b]):=by
 induction c generalizing b with
 |nil=>grind
 |cons f c e=>
  grind [yk,hV,ag]
def uT:X->X->aif
 |0,_=>[]
 |f+1,a=>if a=0 then[] else((a %4294967296:X):Z)::uT f (a/4294967296)
def eR (a:X):aif:=uT (Nat.log2 a+1) a
def e5 (b:aif):Prop:=∀a,b.getLast?=Y a->a≠0
theorem UI:∀{a n:X},n<2^a->aQ (uT a n)/\ag (uT a n)=n/\e5 (uT a n):=by
 intro a
 induction a with
 |zero=>
  intro n b;obtain rfl:n=0:=aa;exact⟨aQ.nil,bn,λc b=>by cases b⟩
 |succ a i=>
  intro n b;unfold uT;split
  ·rename_i g;subst g;exact⟨aQ.nil,bn,λc b=>by cases b⟩
  rename_i k;obtain⟨h,j,d⟩:=i (n:=n/4294967296) aa;refine⟨aQ.cons.2 ⟨⟨aa,aa⟩,h⟩,?_,?_⟩
  ·grind [ag]
  intro c f;cases e:uT a (n/4294967296) with
  |nil=>
   grind [List.getLast?_singleton,aju,ag]
  |cons m l=>
   rw[e,List.getLast?_cons_cons] at f;rw[e] at d;exact d c f
def Ht (a:X):aQ (eR a)/\ag (eR a)=a/\e5 (eR a):=UI Nat.lt_log2_self
theorem oc (a:X):aQ (eR a):=(Ht a).1
theorem sL (a:X):ag (eR a)=a:=(Ht a).2.1
def xh (a:X):e5 (eR a):=(Ht a).2.2
theorem e5.tail (b:e5 (a::c)):e5 c:=λe d=>by
 cases c with
 |nil=>cases d
 |cons f c=>exact b e (by grind)
theorem e5.zero (e:aQ c) (b:e5 c) (d:ag c=0):c=[]:=by
 induction c with
 |nil=>rfl
 |cons h c g=>
  obtain⟨⟨i,j⟩,a⟩:=aQ.cons.1 e;have k:=e7 a;simp only[ag] at d;have f:h=0:=aa;have:=g a b.tail aa;subst this;subst f;exact absurd rfl (b 0 bn)
theorem e5.uniq:∀{a b:aif},aQ a->aQ b->e5 a->e5 b->ag a=ag b->a=b
 |[],b,_,e,_,g,c=>(e5.zero e g (by rw[<-c];rfl)).symm
 |a,[],d,_,f,_,c=>e5.zero d f (by rw[c];rfl)
 |x::a,j::b,d,e,f,g,c=>by obtain⟨⟨k,l⟩,h⟩:=aQ.cons.1 d;obtain⟨⟨m,n⟩,i⟩:=aQ.cons.1 e;simp only[ag] at c;have o:x=j:=aa;have:=e5.uniq h i f.tail g.tail aa;grind
def UL (a:aQ c) (d:e5 c) (e:ag c=b):c=eR b:=
 e5.uniq a (oc b) d (xh b) (by rw[e,sL])
def e5.eq (a:aQ c) (b:e5 c):c=eR (ag c).toNat:=
 UL a b (by have:=e7 a;omega)
theorem e5.low (b:aQ c) (f:e5 c) (a:c≠[]):aU (c.length-1)<=ag c:=by have d:=List.dropLast_concat_getLast a;have i:=f (c.getLast a) (List.getLast?_eq_some_getLast a);have j:=b _ (List.getLast_mem a);rw[<-d,qq];have k:=e7 (l:=c.dropLast) (λh g=>b h (List.dropLast_subset _ g));have e:1<=c.getLast a:=aa;have m:=jL e (fr (fN c.dropLast.length));grind
theorem abD (d:b<e):aU b<aU e:=by obtain⟨a,rfl⟩:∃a,e=b+(a+1):=⟨e-b-1,aa⟩;rw[tF,hV];have f:=fN a;have c:=fN b;have g:1*aU b<(4294967296*aU a)*aU b:=rZ aa c;grind
theorem pa {m n:X} (b:m<=n):aU m<=aU n:=by
 rcases cQ m n with a|a
 ·exact fr (abD a)
 grind
theorem rc {n k:X} (d:(n:Z)<aU k):(eR n).length<=k:=by
 by_cases c:eR n=[]
 ·grind
 have a:=e5.low (oc n) (xh n) c;rw[sL] at a;rcases cQ k (eR n).length with b|b
 ·have:=pa (m:=k) (n:=(eR n).length-1) aa;omega
 omega
theorem MB (a:X):(a:Z)<aU (eR a).length:=by have:=g5 (oc a);grind [sL]
def Hu:eR 0=[]:=rfl
theorem UK:eR b=[]↔b=0:=by
 constructor
 ·grind [sL,ag]
 rintro rfl;rfl
def im (a:aif):aif:=eR (ag a).toNat
theorem Rl (f:aQ c) (j:b<=c.length) (h:∀a,b<=a->(i:a<c.length)->c[a]=0) (g:e5 (c.take b)):c.take b=im c:=by have d:ag c=ag (c.take b):=(by have e:c.drop b=bJ (c.length-b) 0:=(by refine yv ac λa d e=>?_;grind);grind [oC,pg]);rw[im,d];exact e5.eq (f.take b) g
def Kg (a:aif):aQ (im a):=oc _
def Rk (a:aif):e5 (im a):=xh _
theorem Kh (a:aQ c):ag (im c)=ag c:=by have:=e7 a;grind [sL,im]
theorem Rj (a:aQ c):(im c).length<=c.length:=by have b:=g5 a;have:=e7 a;exact rc aa
def VS {b c:bm h} (f:b.length=c.length) (e:∀a,a<b.length->b[a]?=c[a]?):b=c:=by
 apply hO;intro a;rcases cQ a b.length with d|d
 ·exact e a d
 rw[qE d,qE aa]
theorem FQ (a c:aif) (o:a.length<4611686018427387904):q0 (a,c,())=Y (a==c,()):=by
 rw[<-bQ];unfold q0;simp only[bZ,bX,bu];refine⟨λd=>?_,λd=>?_⟩
 ·simp at d;have:a≠c:=λf=>d (by rw[f]);simp[this]
 simp at d;have m:a.length=c.length:=aa;refine ae.for (i0:=0) a.length (λe _=>∀b,b<e->a[b]?=c[b]?) rfl ac (da _) ?_ ?_
 ·intro e n _ k g;simp only[bZ,bX,bu,ail];refine⟨λ_=>⟨k,aa,λl=>?_,λj=>?_⟩,λh=>?_⟩
  ·simp at l;have:a≠c:=λf=>l (by simp[f]);simp[this]
  ·refine⟨iO aa,λb p=>?_⟩;rcases cQ b e with i|i
   ·exact g b i
   obtain rfl:b=e:=aa;simp at j;rw[ba k,ba aa,j]
  simp at h;omega
 intro n g;simp only[bZ,bX,bu];refine⟨λh=>by simp at h,λ_=>?_⟩;simp[VS m g]
theorem tx {a:bm h} (c:b<a.length):a.take b++[a[b]]=a.take (b+1):=by rw[hx,ba c];rfl
theorem AK:c.Pairwise (· < ·)↔∀d,(e:d+1<c.length)->c[d]<c[d+1]:=by
 constructor
 ·intro e d k;exact(h2.1 e) d (d+1) aa k aa
 intro e;rw[h2];have m:∀b a (f:a<c.length) (g:a+b+1<c.length),c[a]<c[a+b+1]:=by
  intro b
  induction b with
  |zero=>intro a f g;exact e a g
  |succ b l=>
   intro a f g;have i:=l a f aa;have j:=e (a+b+1) aa;exact amK i j
 intro a h f g n;obtain⟨b,rfl⟩:∃b,h=a+b+1:=⟨h-a-1,aa⟩;exact m b a f g
def KE (b:aif) (r:b.length<4611686018427387904):zw (b,())=Y (br (b.Pairwise (· < ·)),()):=by
 rw[<-bQ];unfold zw;simp only[bX];by_cases k:b.length=0
 ·have:b=[]:=alR.1 k;subst this;refine aiA (λo=>o=(1,())) (λ_=>0) rfl ?_;rintro _ rfl;simp[bu]
 refine ae.for (i0:=1) b.length (λc _=>∀a,(j:a+1<b.length)->a+1<c->b[a]<b[a+1]) rfl (λa _ j=>by omega) aa ?_ ?_
 ·rintro c _ p l e;simp only[bZ,bX,bu,ail];have i:bK.wrap ((c:Z)-1)=((c-1:X):Z):=(by rw[ct aa aa];omega);rw[i];refine⟨λ_=>⟨l,?_⟩,λf=>?_⟩
  ·rw[ail];refine⟨aa,?_⟩;refine⟨λm=>?_,λh=>⟨iO aa,λa d q=>?_⟩⟩
   ·have:¬b.Pairwise (· < ·):=λn=>by
     have:=AK.1 n (c-1) aa;simp only[(aa:c-1+1=c)] at this;simp at m;omega
    simp[this]
   rcases cQ (a+1) c with g|g
   ·exact e a d g
   obtain rfl:c=a+1:=aa;simp at h;exact h
  simp at f;omega
 intro s e;simp only[bZ,bX,bu];refine⟨λf=>by simp at f,λ_=>?_⟩;have:b.Pairwise (· < ·):=AK.2 (λa d=>e a d d);simp[this]
theorem ff (b:bm h) (a:X):ao b (a:Z)=b[a]?:=by unfold ao;simp
section
def qt (a:aif) (c:Z):Prop:=a.Pairwise (· < ·)/\∀b∈a,0<=b/\b<c
theorem ae.count {g:h->bv (h⊕n)} {f:n->Prop} (d:h->Z) (c:X) (e:X->h->Prop) {i0:X} {j:h} (q:d j=(i0:Z)) (p:e i0 j) (l:i0<=c) (s:∀a b,i0<=a->a<c->d b=(a:Z)->e a b->ae (g b) (λ|.inl m=>d m=((a+1:X):Z)/\e (a+1) m|.inr i=>f i)) (u:∀b,d b=(c:Z)->e c b->ae (g b) (λ|.inl _=>b6|.inr i=>f i)):ae (jg.loop g j) f:=by
 refine aiA (λb=>∃a:X,i0<=a/\a<=c/\d b=(a:Z)/\e a b) (λb=>c-(d b).toNat) ⟨i0,bc _,l,q,p⟩ ?_;rintro b ⟨a,r,l,o,t⟩;rcases cQ a c with k|k
 ·refine(s a b r k o t).mono ?_;grind
 grind [mono]
open Classical in
theorem Tj (b:aif) (d:Z) (u:b.length<4611686018427387904):Cg (b,d,())=Y (br (qt b d),()):=by
 rw[<-bQ];unfold Cg;simp only[bX];refine ae.count (λi=>i.2.1) b.length (λa i=>i.1=(if a=0 then-1 else b.getD (a-1) 0)/\(b.take a).Pairwise (· < ·)/\∀e∈b.take a,0<=e/\e<d) (i0:=0) rfl ⟨bn,ac,ac⟩ (da _) ?_ ?_
 ·rintro a ⟨h,x,_⟩ _ n j ⟨f,r,m⟩;simp only at j f;subst j;simp only[bZ,bX,bu,ail];have v:∀e∈b.take a,e<=h:=by
   intro e q;rw[f];obtain⟨y,p,rfl⟩:=hu.1 q;simp only[fQ] at p;have o:a≠0:=aa;rw[az o];grind [aih,cl,bS]
  have w:-1<=h:=by
   rw[f];by_cases g:a=0
   ·omega
   rw[az g];simp only[aiZ,ba (aa:a-1<b.length),r8];have:=m (b[a-1]) (hu.2 ⟨a-1,by grind,ac⟩);omega
  have s:(b[a]<=h\/d<=b[a])->¬qt b d:=by
   rintro c ⟨z,A⟩;rcases c with c|c
   ·rw[f] at c;by_cases g:a=0
    ·grind
    rw[az g] at c;grind [aih,bS]
   grind [b7]
  refine⟨λ_=>⟨n,λk=>⟨λl=>?_,λl=>?_⟩,λk=>?_⟩,λt=>by grind⟩
  ·grind
  ·simp at k l;refine⟨iO aa,?_,?_,?_⟩
   ·grind
   ·grind [aik,tx]
   grind [tx,aik]
  grind
 simp_all [bZ,bu,hP,qt]
theorem KQ (a b:Z):ur (a,b,())=Y (br (a<b),()):=by grind [ur,sr]
theorem Kx (a:Z) (b:0<=a) (c:a<18446744073709551616):bE.wrap a=a:=by unfold ajV;rw[az (by simp[amL])];show a %18446744073709551616=a;omega
theorem KG (b:aif) (e:Z) (B:b.length<4611686018427387904) (D:b.Pairwise (· < ·)):ae (uA (b,e,())) (λv=>v.2.1=br (e∈b)):=by
 unfold uA;simp only[bX];refine cz (P:=λu=>∃a:X,u.1=(a:Z)/\a<=b.length/\(∀c,(f:c<b.length)->c<a->b[c]<e)/\(∀c,(f:c<b.length)->a<=c->e<=b[c])) ?_ ?_
 ·refine aiA (λg=>∃a d:X,g.1=(a:Z)/\g.2.1=(d:Z)/\a<=d/\d<=b.length/\(∀c,(f:c<b.length)->c<a->b[c]<e)/\(∀c,(f:c<b.length)->d<=c->e<=b[c])) (λg=>(g.2.1-g.1).toNat) ⟨0,b.length,bn,bn,da _,bc _,λc _ f=>by omega,λc j h=>by omega⟩ ?_;rintro⟨t,E,_⟩ ⟨a,d,rfl,rfl,A,o,j,h⟩;simp only[bZ,bX,bu];refine⟨λi=>?_,λn=>?_⟩
  ·have i:a<d:=(by grind);have aq:bK.wrap ((a:Z)+d)=(a:Z)+d:=ct aa aa;rw[aq,Kx _ aa aa];have s:eJ bE ((a:Z)+d) 1=Y (((a+d)/2:X):Z):=by
    unfold eJ;rw[au aa];congr 1;show((a:Z)+d).fdiv (2^min 1 64)=_;grind
   rw[s];simp only[bu];have m:bK.wrap (((a+d)/2:X):Z)=(((a+d)/2:X):Z):=ct aa aa;rw[m,ail];refine⟨aa,?_⟩;rw[KQ];simp only[bu,bZ];have y:(a+d)/2<b.length:=aa;refine⟨λk=>?_,λk=>?_⟩
   ·have k:b[(a+d)/2]<e:=(by grind);rw[iO aa];refine⟨⟨(a+d)/2+1,d,bn,bn,aa,o,λc l p=>?_,h⟩,aa⟩;grind [amK,aih,cl]
   have k:e<=b[(a+d)/2]:=(by grind);refine⟨⟨a,(a+d)/2,bn,bn,aa,aa,j,λc l p=>?_⟩,aa⟩;grind [aih,cl]
  grind
 rintro⟨t,_⟩ ⟨a,rfl,z,j,h⟩;simp only;have C:(∀f:a<b.length,b[a]≠e)->e∉b:=by
  intro r q;obtain⟨c,l,rfl⟩:=hu.1 q;rcases r6 c a with f|f|f
  ·grind
  ·grind
  have w:=h a aa (bc _);grind [aih]
 simp only[bZ,bX,bu,ail];refine⟨λi=>?_,λn=>?_⟩
 ·have i:a<b.length:=(by grind);refine⟨i,λr=>?_,λx=>?_⟩
  ·grind [bu,C2]
  grind
 grind
structure fj (mQ:ew):Prop where
 asc:∀v,(h:v<mQ.length)->qt mQ[v] mQ.length
 Nv:∀v,(h:v<mQ.length)->(v:Z)∉mQ[v]
 sym:∀v,(h:v<mQ.length)->∀w:X,(hw:w<mQ.length)->(w:Z)∈mQ[v]->(v:Z)∈mQ[w]
open Classical in
def ix (a:ew):Z:=if 200<a.length then 6 else if fj a then 0 else 1
open Classical in
theorem Ib (a:ew) (b:X) (c:Z) (f:b<a.length) (d:a[b].length<4611686018427387904) (e:a[b].Pairwise (· < ·)):wP ((a,()),(b:Z),c,())=Y (br (c∈a[b]),()):=by rw[<-bQ];grind [bu,KG,bX,ail,wP]
theorem FM (a:ew) (p:∀z∈a,z.length<4611686018427387904):y7 ((a,()),())=Y (ix a,()):=by
 classical
 rw[<-bQ];unfold y7;simp only[bZ,bX,bu];refine⟨λi=>?_,λi=>?_⟩
 ·grind [ix]
 have G:¬200<a.length:=(by grind);have C:¬fj a->(1:Z)=ix a:=λi=>(by grind [ix]);refine cz (P:=λh=>(h=.inr (1,())/\¬fj a)\/(h=.inl ()/\∀d,(i:d<a.length)->qt a[d] a.length/\(d:Z)∉a[d])) ?_ ?_
 ·refine ae.for (i0:=0) a.length (λc _=>∀d,d<c->(i:d<a.length)->qt a[d] a.length/\(d:Z)∉a[d]) rfl (λd l=>by omega) (da _) ?_ ?_
  ·rintro c _ _ g t;simp only[bZ,bX,bu,ail];refine⟨λ_=>⟨g,?_⟩,λr=>by grind⟩;rw[Tj _ _ (p _ (cR g))];simp only[bu];refine⟨λq=>?_,λq=>.inl ⟨trivial,λf=>?_⟩⟩
   ·have q:qt a[c] a.length:=(by grind);rw[Ib a c c g (p _ (cR g)) q.1];simp only[bu,bZ];refine⟨λx=>.inl ⟨trivial,λf=>f.Nv c g (by grind)⟩,λx=>⟨iO aa,λd l D=>?_⟩⟩;grind
   have:=f.asc c g;grind
  simp_all [bZ,bu,trivial]
 rintro h (⟨rfl,f⟩|⟨rfl,o⟩)
 ·grind [bu]
 simp only[bX];have J:(∀e,(i:e<a.length)->∀k∈a[e],∀b:X,k=(b:Z)->(j:b<a.length)->(e:Z)∈a[b])->fj a:=λi=>⟨λe f=>(o e f).1,λe f=>(o e f).2,λe f b j s=>i e f b s b bn j⟩;refine cz (P:=λh=>(h=.inr (1,())/\¬fj a)\/(h=.inl ()/\∀e,(i:e<a.length)->∀k∈a[e],∀b:X,k=(b:Z)->(j:b<a.length)->(e:Z)∈a[b])) ?_ ?_
 ·refine ae.for (i0:=0) a.length (λc _=>∀e,e<c->(i:e<a.length)->∀k∈a[e],∀b:X,k=(b:Z)->(j:b<a.length)->(e:Z)∈a[b]) rfl (λd l=>by omega) (da _) ?_ ?_
  ·rintro c _ _ g t;simp only[bZ,bX,ail];refine⟨λ_=>⟨g,?_⟩,λr=>by grind⟩;have E:=p _ (cR g);refine cz (P:=λh=>(h=.inr (.inr (.inr (1,())))/\¬fj a)\/(h=.inl ()/\∀k∈a[c],∀b:X,k=(b:Z)->(j:b<a.length)->(c:Z)∈a[b])) ?_ ?_
   ·refine ae.for (i0:=0) a[c].length (λd _=>∀m,m<d->(i:m<a[c].length)->∀b:X,a[c][m]=(b:Z)->(j:b<a.length)->(c:Z)∈a[b]) rfl (λd l=>by omega) (da _) ?_ ?_
    ·rintro d _ _ l v;simp only[bZ,bX,ail];refine⟨λ_=>⟨l,?_⟩,λr=>by grind⟩;have I:=(o c g).1.2 _ (cR l);obtain⟨b,j⟩:∃b:X,a[c][d]=(b:Z):=⟨a[c][d].toNat,aa⟩;have n:b<a.length:=aa;rw[j,Ib a b c n (p _ (cR n)) (o b n).1.1];simp only[bu,bZ];refine⟨λH=>.inl ⟨trivial,λf=>?_⟩,λM=>⟨iO aa,λm s F B K L=>?_⟩⟩
     ·have:=f.sym c g b n (j▸cR l);grind
     rcases cQ m d with u|u
     ·grind
     obtain rfl:m=d:=aa;have:B=b:=aa;grind
    intro A v;simp only[bZ,bu];refine⟨λr=>by grind,λ_=>.inr ⟨trivial,λk y b j n=>?_⟩⟩;obtain⟨m,s,rfl⟩:=hu.1 y;grind
   rintro h (⟨rfl,f⟩|⟨rfl,w⟩)
   ·simp_all [trivial,bu]
   grind [bu,iO,cl]
  intro A t;simp only[bZ,bu];grind
 rintro h (⟨rfl,f⟩|⟨rfl,w⟩)
 ·grind [bu]
 grind [bu,ix]
end
section
inductive qQ (A:X->X->Prop) (k:X):X->X->Prop
 |one {i j:X}:A i j->qQ A k i j
 |step {i m j:X}:A i m->m<k->qQ A k m j->qQ A k i j
section
variable {A:X->X->Prop} {k:X}
end
end
section
def jP (A:ew) (a b:X):Prop:=∃c:a<A.length,(b:Z)∈A[a]
def jP.lt {A:ew} (f:fj A) (a:jP A b e):b<A.length/\e<A.length:=by obtain⟨c,d⟩:=a;have:=(f.asc b c).2 _ d;omega
def jP.symm {A:ew} (e:fj A):∀a b,jP A a b->jP A b a:=λa b c=>by obtain⟨f,d⟩:=c.lt e;exact⟨d,e.sym a f b d c.2⟩
def jP.ne {A:ew} (d:fj A) (a:jP A b e):b≠e:=λc=>by subst c;exact d.Nv b a.1 a.2
def qQ.lt {A:ew} (b:fj A) {e c j:X} (a:qQ (jP A) e c j):c<A.length/\j<A.length:=by
 induction a with
 |one a=>exact a.lt b
 |step a _ _ d=>exact⟨(a.lt b).1,d.2⟩
inductive BI (R:X->X->Prop):X->X->Prop
 |refl (u:X):BI R u u
 |step {u p v:X}:R u p->BI R p v->BI R u v
section
variable (A:ew)
variable {A} {j:X} {T:X->Prop} {par B:aif}
end
end
section
def yq (c:ew) (a b:X):Prop:=b=a\/(a<b/\qQ (jP c) a a b)
open Classical in
def um (c:ew) (b d:X):aif:=((bI d).filter λa=>br (b<=a/\yq c b a)).map λ(a:X)=>(a:Z)
def g2 (a:ew) (b:X):aif:=um a b a.length
def yq.le (a:yq p e b):e<=b:=by rcases a with a|a<;>omega
def vd:(b:Z)∈g2 p e↔b<p.length/\yq p e b:=by
 unfold g2 um;simp only[eZ,ht,iq,aiF];constructor
 ·rintro⟨d,⟨c,a⟩,f⟩;have:d=b:=aa;subst this;exact⟨c,a.2⟩
 exactλ⟨c,a⟩=>⟨b,⟨c,a.le,a⟩,bn⟩
def JY (c:X->bA) (b:X):(((bI b).filter c).map λ(a:X)=>(a:Z)).Pairwise (· < ·):=by rw[py];refine anH _ ?_;exact List.pairwise_lt_range.imp (λd=>by omega)
def L7 (a:ew) (b:X):(g2 a b).Pairwise (· < ·):=JY _ _
def T1 (b:ew) (c a:X):(um b c a).length<=a:=by unfold um;rw[e9];exact ez (kO _ _) ac
end
theorem Bt (a:aif) (b:Z) (h:a.length<4611686018427387904):sA (a,b,())=Y (br (b∈a),()):=by
 rw[<-bQ];unfold sA;simp only[bX];refine ae.for (i0:=0) a.length (λc _=>b∉a.take c) rfl ac (da _) ?_ ?_
 ·rintro c _ _ d e;simp only[bZ,bX,bu,ail];refine⟨λ_=>⟨d,λf=>?_,λi=>⟨iO aa,?_⟩⟩,λg=>by grind⟩
  ·grind
  grind [tx,aik]
 simp_all [bZ,bu,hP]
def RG (a:Z):bE.wrap a=a %18446744073709551616:=by unfold ajV;rw[az (by simp[amL])];rfl
def hy (a:eu) (b c:X):bA:=(a.getD b []).getD c bq
def ms (c:eu) (b d:X):aif:=((bI d).filter λa=>b !=a&&(hy c b a||hy c a b)).map λ(a:X)=>(a:Z)
def jG (a:eu):ew:=(bI a.length).map λb=>ms a b a.length
theorem NU (b:eu) (c a:X):(ms b c a).length<=a:=by grind [cu,aiH,cg,ms]
theorem NV (c:eu) (b a:X):ms c b (a+1)=ms c b a++(if(b !=a&&(hy c b a||hy c a b))=bp then[(a:Z)] else[]):=by unfold ms;rw[i7,pq,ji];grind
theorem wy {a:eu} (c:b<a.length) (d:e<a[b].length):hy a b e=a[b][e]:=by grind [aiZ,hy]
theorem KL (a:eu) (p:∀k∈a,k.length=a.length) (y:a.length<=4294967296):zI (a,())=Y ((jG a,()),()):=by
 rw[<-bQ];unfold zI;have v:hC=4294967296:=rfl;simp only[bX];refine cz (P:=λd=>d.2.1.1=jG a) ?_ ?_
 ·refine ae.for (i0:=0) a.length (λc l=>l.2.1.1=(bI c).map λc=>ms a c a.length) rfl rfl (da _) ?_ ?_
  ·rintro c ⟨l,h,_⟩ _ i g;simp only at g;simp only[bZ,bX,bu];refine⟨λ_=>?_,λm=>by grind⟩;refine cz (P:=λd=>d.2.1=h/\d.2.2.1=ms a c a.length) ?_ ?_
   ·refine ae.for (i0:=0) a.length (λe d=>d.2.1=h/\d.2.2.1=ms a c e) rfl ⟨bn,bn⟩ (da _) ?_ ?_
    ·rintro e ⟨s,q,k,_⟩ _ j ⟨n,o⟩;simp only at o n;subst n;have t:=p _ (cR i);have u:=p _ (cR j);simp only[bZ (b:=decide _),bX (x:=bB _ _)];refine⟨λ_=>?_,λm=>by grind⟩;rw[bX];refine cz (P:=λd=>d=((c !=e&&(hy a c e||hy a e c)),s,q,k,())) ?_ ?_
     ·simp only[bZ,bX,bu,ail];rw[wy i aa,wy j aa];refine⟨λf=>⟨i,aa,λr=>⟨j,aa,?_⟩,λr=>?_⟩,λf=>?_⟩
      ·have f:c≠e:=(by grind);grind
      ·have f:c≠e:=(by grind);grind
      grind
     rintro d rfl;have w:=NU a c e;simp only[bZ,bX,bu,ae.xC];refine⟨λf=>⟨by grind,iO aa,trivial,?_⟩,λf=>⟨iO aa,trivial,?_⟩⟩
     ·rw[NV,au f,o]
     simp_all [NV,az,mK]
    simp_all [bZ,bu,trivial]
   grind [bX,bu,ae.xC,iO,aiI]
  rintro⟨l,h,_⟩ g;simp only at g;simp only[bZ,bu];exact⟨λm=>by grind,λ_=>g⟩
 grind [bu]
theorem N9 {a:eu}:(b:Z)∈ms a e l↔b<l/\e≠b/\(hy a e b||hy a b e)=bp:=by unfold ms;grind
theorem HO (b:eu):fj (jG b):=by
 have e:(jG b).length=b.length:=(by simp[jG]);have d:∀a,(c:a<(jG b).length)->(jG b)[a]=ms b a b.length:=λa c=>(by simp[jG]);refine⟨λa c=>?_,λa c=>?_,λa c i h g=>?_⟩
 ·rw[d a c,e];refine⟨JY _ _,λj f=>?_⟩;unfold ms at f;grind
 ·grind [N9]
 grind [N9,Bool.or_comm]
def VF (a:eu):(jG a).length=a.length:=by simp[jG]
theorem VG (b:eu):∀a∈jG b,a.length<=b.length:=by intro a c;unfold jG at c;grind [NU]
def T2 (r:fj p) (s:b<p.length):∃f,g2 p b=(b:Z)::f/\(∀c∈f,∃a:X,c=(a:Z)/\b<a/\a<p.length/\qQ (jP p) b b a)/\(∀a:X,b<a->qQ (jP p) b b a->(a:Z)∈f)/\f.Pairwise (· < ·):=by
 have k:(b:Z)∈g2 p b:=vd.2 ⟨s,.inl bn⟩;have h:=L7 p b;have i:∀c∈g2 p b,∃a:X,c=(a:Z)/\a<p.length/\yq p b a:=(by intro c e;have t:=e;unfold g2 um at e;simp only[eZ] at e;obtain⟨a,_,rfl⟩:=e;exact⟨a,bn,vd.1 t⟩);generalize q:g2 p b=n at k h i;cases n with
 |nil=>cases k
 |cons c f=>
  rw[mM] at h;have e:c=(b:Z):=by
   obtain⟨a,rfl,_,j⟩:=i c (nc ..);have:=j.le;rcases fR.1 k with d|d
   ·exact d.symm
   have:=h.1 _ d;omega
  subst e;refine⟨f,bn,λu m=>?_,λa j l=>?_,h.2⟩
  ·obtain⟨a,rfl,o,g⟩:=i u (hW _ m);have:=h.1 _ m;rcases g with g|g
   ·omega
   exact⟨a,bn,g.1,o,g.2⟩
  have:(a:Z)∈g2 p b:=vd.2 ⟨(l.lt r).2,.inr ⟨j,l⟩⟩;rw[q] at this;rcases fR.1 this with d|d
  ·omega
  exact d
theorem gN {a:bm h} {i:X} {b:h} (c:a[i]?=Y b):ao a (i:Z)=Y b:=by unfold ao;rw[au aa,fJ,c]
theorem Gf (b:ew):fj b↔∀a,(f:a<b.length)->b[a].Pairwise (· < ·)/\∀c,(e:c<b[a].length)->(0<=b[a][c]/\b[a][c]<b.length)/\b[a][c]≠(a:Z)/\(a:Z)∈b.getD (b[a][c]).toNat []:=by
 constructor
 ·rintro⟨g,j,k⟩ a d;refine⟨(g a d).1,λc e=>?_⟩;have l:=(g a d).2 _ (cR e);grind
 intro f;refine⟨λa d=>⟨(f a d).1,λp n=>?_⟩,λa d h=>?_,λa d o m h=>?_⟩
 ·grind [ai8]
 ·grind [ai8]
 obtain⟨c,e,i⟩:=hu.1 h;grind [aiT,bS]
theorem AY (a:ew) (s:∀B∈a,B.length<4611686018427387904):uJ ((a,()),())=Y (ix a,()):=by
 classical
 rw[<-bQ];unfold uJ;simp only[bZ,bu,bX];refine⟨λd=>?_,λd=>?_⟩
 ·grind [ix]
 have E:¬200<a.length:=(by grind);refine cz (P:=λg=>(g=.inl ()/\fj a)\/(g=.inr (1,())/\¬fj a)) ?_ ?_
 rotate_left
 ·rintro _ (⟨rfl,e⟩|⟨rfl,e⟩)
  ·grind [bu,ix]
  grind [bu,ix]
 refine ae.for (i0:=0) a.length (λn _=>∀b,(d:b<a.length)->b<n->a[b].Pairwise (· < ·)/\∀c,(f:c<a[b].length)->(0<=a[b][c]/\a[b][c]<a.length)/\a[b][c]≠(b:Z)/\(b:Z)∈a.getD (a[b][c]).toNat []) rfl (λb _ d=>by omega) (da _) ?_ ?_
 ·rintro b _ _ e i;have A:=s _ (cR e);simp only[bZ,bu,bX,ail];refine⟨λ_=>⟨e,?_⟩,λh=>by grind⟩;rw[KE _ A];simp only[bu];refine⟨λl=>.inr ⟨trivial,λk=>?_⟩,λl=>?_⟩
  ·have:=(k.asc b e).1;grind
  have l:a[b].Pairwise (· < ·):=(by grind);refine cz (P:=λg=>(g=.inl ()/\∀c,(f:c<a[b].length)->(0<=a[b][c]/\a[b][c]<a.length)/\a[b][c]≠(b:Z)/\(b:Z)∈a.getD (a[b][c]).toNat [])\/(g=.inr (.inr (.inr (1,())))/\¬fj a)) ?_ ?_
  rotate_left
  ·rintro _ (⟨rfl,t⟩|⟨rfl,t⟩)
   ·simp only[bu];refine⟨iO aa,λp z G=>?_⟩;rcases cQ p b with d|d
    ·exact i p z d
    obtain rfl:p=b:=aa;exact⟨l,t⟩
   simp_all [bu,trivial]
  refine ae.for (i0:=0) a[b].length (λn _=>∀c,(f:c<a[b].length)->c<n->(0<=a[b][c]/\a[b][c]<a.length)/\a[b][c]≠(b:Z)/\(b:Z)∈a.getD (a[b][c]).toNat []) rfl (λb _ d=>by omega) (da _) ?_ ?_
  ·rintro c _ _ f j;have m:¬((0<=a[b][c]/\a[b][c]<a.length)/\a[b][c]≠(b:Z)/\(b:Z)∈a.getD (a[b][c]).toNat [])->¬fj a:=λd k=>d (((Gf a).1 k b e).2 c f);simp only[bZ,bu,bX,ail];refine⟨e,λ_=>⟨e,f,λq=>⟨λr=>⟨λu=>?_,λu=>?_⟩,λr=>?_⟩,λq=>?_⟩,λh=>by simp_all⟩
   ·have y:0<=a[b][c]/\a[b][c]<(a.length:Z):=(by simp_all);have F:a[b][c]≠(b:Z):=(by simp_all);rw[ae.M7];refine⟨aa,y.1,?_⟩;rw[Bt _ _ (s _ (cR _))];have C:a.getD (a[b][c]).toNat []=a[(a[b][c]).toNat]'(by omega):=by
     simp_all
    simp only[bu];refine⟨λv=>.inr ⟨trivial,m ?_⟩,λv=>⟨iO aa,λo x D=>?_⟩⟩
    ·simp_all
    rcases cQ o c with d|d
    ·exact j o x d
    obtain rfl:o=c:=aa;simp_all
   ·simp_all
   ·refine .inr ⟨trivial,m (λw=>?_)⟩;simp at r;omega
   refine .inr ⟨trivial,m (λw=>?_)⟩;simp at q;omega
  rintro _ j;simp only[bZ,bu,bX,ail];exact⟨e,λh=>by simp at h,λ_=>.inl ⟨trivial,λc f=>j c f f⟩⟩
 rintro _ i;simp only[bZ,bu];exact⟨λh=>by grind,λ_=>.inl ⟨trivial,(Gf a).2 λb e=>i b e e⟩⟩
theorem Sm (a:aif) (c:Z) (q:a.length<4611686018427387904):Ds (a,c,())=Y (br (∀b∈a,0<=b/\b<c),()):=by
 rw[<-bQ];unfold Ds;simp only[bX];refine cz (P:=λi=>(i=.inl ()/\∀b∈a,0<=b/\b<c)\/(i=.inr (bq,())/\¬∀b∈a,0<=b/\b<c)) ?_ ?_
 ·refine ae.for (i0:=0) a.length (λf _=>∀d,(e:d<a.length)->d<f->0<=a[d]/\a[d]<c) rfl (λd _ e=>by omega) (da _) ?_ ?_
  ·rintro f _ _ g l;have h:¬(0<=a[f]/\a[f]<c)->¬∀b∈a,0<=b/\b<c:=λe n=>e (n _ (cR g));simp only[bZ,bX,bu,ail];refine⟨λ_=>⟨g,λj=>⟨g,λk=>.inr ⟨trivial,h (λe=>?_)⟩,λk=>⟨iO aa,λd o p=>?_⟩⟩,λj=>.inr ⟨trivial,h (λe=>?_)⟩⟩,λm=>by grind⟩
   ·grind
   ·grind
   grind
  rintro _ l;simp only[bZ,bu];refine⟨λm=>by grind,λ_=>.inl ⟨trivial,λb r=>?_⟩⟩;grind [ai8]
 grind [bu,aij,aiO]
theorem OA:c.Nodup↔∀a,(b:a<c.length)->c[a]∉c.take a:=by grind [ai8,air,aih]
theorem Sw (a:aif) (m:a.length<4611686018427387904):Dt (a,())=Y (br (¬a.Nodup),()):=by
 rw[<-bQ];unfold Dt;simp only[bX];refine cz (P:=λe=>(e=.inl ()/\a.Nodup)\/(e=.inr (bp,())/\¬a.Nodup)) ?_ ?_
 ·refine ae.for (i0:=0) a.length (λc _=>∀b,(d:b<a.length)->b<c->a[b]∉a.take b) rfl (λb _ d=>by omega) (da _) ?_ ?_
  ·rintro c _ _ g h;have aq:gu (c:Z)=Y c:=(by simp_all [au,fJ,gu]);have f:g9 0 c a.length=Y ():=(by grind [g9]);simp only[bZ,bX,bu,ail,aq,f,aD,ja,lP];refine⟨λ_=>⟨g,?_⟩,λj=>by grind⟩;rw[Bt _ _ (by grind)];simp only[bu];refine⟨λd=>.inr ⟨trivial,λi=>?_⟩,λd=>⟨iO aa,λb k l=>?_⟩⟩
   ·simp_all [OA,of_decide_eq_true]
   grind
  simp_all [bZ,bu,trivial,OA]
 grind [bu,aiO,aij]
def oz (a:ew):eu:=(bI a.length).map λb=>(bI a.length).map λ(c:X)=>br ((c:Z)∈a.getD b [])
theorem J9 (a:ew):(oz a).length=a.length:=by simp[oz]
theorem Rc (a:b<p.length):(oz p)[b]?=Y ((bI p.length).map λ(c:X)=>br ((c:Z)∈p[b])):=by simp[oz,a,aiZ]
theorem KZ (o:∀v∈p,v.length<4611686018427387904) (y:p.length<=200) (r:∀a,(f:a<p.length)->∀n∈p[a],0<=n/\n<(p.length:Z)):zJ ((p,()),())=Y (oz p,()):=by
 rw[<-bQ];unfold zJ;have x:hC=4294967296:=rfl;simp only[bX];refine cz (P:=λd=>d.1=oz p) ?_ (by grind [bu]);refine ae.for (i0:=0) p.length (λu e=>e.1=(oz p).take u) rfl ac (da _) ?_ ?_
 ·rintro a ⟨i,_⟩ _ b h;simp only at h;have A:=o _ (cR b);simp only[bZ,bX,ae.IA,fJ];refine⟨λ_=>⟨⟨aa,aa,aa⟩,?_⟩,λq=>by grind⟩;refine cz (P:=λd=>d.1=i/\d.2.1=(bI p.length).map λ(k:X)=>br ((k:Z)∈p[a])) ?_ ?_
  ·refine ae.for (i0:=0) p[a].length (λc e=>e.1=i/\e.2.1=(bI p.length).map λ(k:X)=>br ((k:Z)∈p[a].take c)) rfl ⟨bn,?_⟩ (da _) ?_ ?_
   ·apply hO;grind
   ·rintro c ⟨B,w,_⟩ _ g ⟨l,m⟩;simp only at l m;have t:=r a b _ (cR g);have z:w.length=p.length:=(by grind);simp only[bZ,bX,ail,ae.Ef,ae.BQ,bu];refine⟨b,λ_=>⟨b,g,⟨t.1,aa⟩,aa,iO aa,l,?_⟩,λq=>by grind⟩;apply hO;intro j;rw[wa,m,jh,jh];rcases cQ j p.length with f|f
    ·rw[Bw f];simp only[ja,<-tx g,h9,gp,e9,nb];by_cases s:(p[a][c]).toNat=j
     ·grind
     rw[az s];have:¬(j:Z)=p[a][c]:=aa;grind
    grind
   simp_all [bZ,bX,ail,bu,hP]
  grind [bX,ae.xC,bu,iO,Rc,cr]
 rintro⟨i,_⟩ h;simp only at h;simp only[bZ,bu];grind [J9,cA]
theorem Mx (a:X) (h:a<=4294967296):zK ((a:Z),())=Y (bJ a (bJ a bq),()):=by
 rw[<-bQ];unfold zK;have g:hC=4294967296:=rfl;simp only[bX];refine cz (P:=λd=>d.1=bJ a (bJ a bq)) ?_ (by grind [bu]);refine ae.for (i0:=0) a (λb e=>e.1=bJ b (bJ a bq)) rfl rfl (da _) ?_ ?_
 ·rintro b ⟨i,_⟩ _ f c;simp only at c;simp only[bZ,bX,bu,ae.IA,ae.xC,fJ];grind [List.replicate_succ',iO]
 simp_all [bZ,bu]
section
def aB {α:Type} (b:X) (a:X->α):bm α:=(bI b).map a
def eC {α:Type} (b:X->α) (c:X) (d:α):X->α:=λa=>if a=c then d else b a
section
variable {α A B:Type}
theorem gH (c:X->α) (a:X) (b:α):eC c a b a=b:=au bn
theorem hb (a:X->α) (d:α) (c:b≠e):eC a e d b=a b:=az c
theorem cX (a:X) (b:X->α):(aB a b).length=a:=by simp[aB]
theorem od (c:X) (b:X->α) (a:X):(aB c b)[a]?=if a<c then Y (b a) else bo:=by unfold aB;grind
theorem jn {a:X->α} (c:b<e):(aB e a)[b]?=Y (a b):=by rw[od,au c]
theorem lz {a:X->α} (c:b<(aB e a).length):(aB e a)[b]=a b:=by simp[aB]
theorem db {c d:X->α} (e:∀a,a<b->c a=d a):aB b c=aB b d:=h7 λa f=>e a (iq.1 f)
theorem Vi (a:X->α):aB 0 a=[]:=rfl
theorem z1 (b:X) (a:X->α):aB (b+1) a=aB b a++[a b]:=by simp[aB,i7]
theorem jc (a:X) (b:α):bJ a b=aB a λ_=>b:=by apply hO;grind [od]
theorem hB {a:X->α} (c:α):(aB e a).set b c=aB e (eC a b c):=by apply hO;intro d;rw[wa,od,od,cX];unfold eC;grind
def N7 {a:X->α} {d:α}:d∈aB b a↔∃c,c<b/\a c=d:=by simp[aB]
theorem Vh (a:bm α) (c:X->α) (d:∀b,(e:b<a.length)->a[b]=c b):a=aB a.length c:=by apply hO;grind [ajU,bS,od]
theorem DT (c a:X) (b:X->α) (d:a<=c):(aB c b).take a=aB a b:=by apply hO;intro e;rw[akC,od,od];grind
theorem Vf (d a:X) (b:X->α):(aB d b).drop a=aB (d-a) (λc=>b (a+c)):=by apply hO;intro c;rw[pw,od,od];grind
theorem zZ (b e:X) (c d:X->α):aB b c++aB e d=aB (b+e) (λa=>if a<b then c a else d (a-b)):=by apply hO;intro a;rw[List.getElem?_append,cX,od,od,od];grind
theorem eU {n i:X} (a:i<n):bj n (i:Z)=Y i:=by simp_all [au,bj]
theorem gj {c:bm α} {v:α} {a:α->bv A} (d:c[b]?=Y v):a9 c b a=a v:=by grind [a9]
theorem gW {a:X->α} {c:α->bv A} (d:b<e):a9 (aB e a) b c=c (a b):=gj (jn d)
def rr {a:X->α} (c:b<e):ao (aB e a) (b:Z)=Y (a b):=gN (jn c)
theorem dc (a:b<=4294967296):cC b=Y ():=au a
theorem h6 (a:b<=4294967296):fV (b:Z) (b:Z)=Y b:=by unfold fV;rw[au ⟨aa,aa,by have:hC=4294967296:=rfl;omega⟩];simp
theorem vh:gu (b:Z)=Y b:=by simp_all [au,gu]
theorem p8 (a:e<=b/\b<=l):g9 e b l=Y ():=au a
def Jt (a:0<b):nL b=Y ():=rfl
theorem gK (a b:Z):(a==b)=br (a=b):=by grind
theorem fO (a b:Z):(a !=b)=!br (a=b):=by grind
theorem aL [aiU m] (a:m):decide m=bp:=aij a
theorem aI [aiU m] (a:¬m):decide m=bq:=aiO a
theorem aY {a b:α} (c:g=bp):(bif g then a else b)=a:=by grind
theorem a1 {b a:α} (c:g=bq):(bif g then b else a)=a:=by grind
theorem cO [aiU m] {a b:α}:(bif decide m then a else b)=if m then a else b:=by grind
theorem yY [aiU m] {a b:α}:(bif decide m==bp then a else b)=if m then a else b:=by grind
theorem wJ [aiU m] {a b:α}:(bif decide m==bq then a else b)=if m then b else a:=by grind
theorem Bk (a:b<9223372036854775808):bK.wrap (b:Z)=(b:Z):=ct aa aa
theorem RH (a:b+e<9223372036854775808):bK.wrap ((b:Z)+(e:Z))=((b+e:X):Z):=by grind [ct]
theorem aeD (c:e<=b) (a:b<9223372036854775808):bK.wrap ((b:Z)-(e:Z))=((b-e:X):Z):=by grind [ct]
theorem vN (c:1<=b) (a:b<9223372036854775808):bK.wrap ((b:Z)-1)=((b-1:X):Z):=by grind [ct]
theorem iN (a:b+1<9223372036854775808):bK.wrap ((b:Z)+1)=((b+1:X):Z):=by grind [ct]
end
def ae.of_eq {α:Type} {b:bv α} {y:α} {a:α->Prop} (c:b=Y y) (d:a y):ae b a:=⟨y,c,d⟩
theorem ae.aK {α A:Type} {c:bv α} {b:α->bv A} {P:α->Prop} {a:A->Prop} (e:ae c P) (f:∀d,P d->ae (b d) a):ae (c.bind b) a:=
 bX.2 (e.mono f)
theorem ae.ite {α:Type} [aiU m] {b c:bv α} {a:α->Prop} (d:m->ae b a) (e:¬m->ae c a):ae (if m then b else c) a:=by grind
theorem ai {α A:Type} {c:bv α} {a:α->bv A} {y:α} {b:bv A} (d:c=Y y) (e:a y=b):c.bind a=b:=by grind
theorem Am {f:Z×h->bv ((Z×h)⊕n)} {g:n} {i:h} (d:X) (c:X->h) (e:X) (k:a=(e:Z)) (l:i=c e) (j:e<=d) (p:∀b,e<=b->b<d->f ((b:Z),c b)=Y (.inl (((b+1:X):Z),c (b+1)))) (o:f ((d:Z),c d)=Y (.inr g)):loop f (a,i)=Y g:=by
 subst k l;rw[<-bQ];refine ae.for d (λb m=>m=c b) rfl rfl j ?_ ?_
 ·grind [bu]
 grind [bu]
theorem s4 {τ:Type} {i:Z×τ->bv ((Z×τ)⊕h)} (f:X) (e:X->Prop) (g:τ) (m l:h) (d:X) (r:a=(d:Z)) (q:d<=f) (s:∀b,d<=b->b<f->(∀c,d<=c->c<b->e c)->i ((b:Z),g)=Y (open Classical in if e b then .inl (((b+1:X):Z),g) else .inr l)) (v:(∀c,d<=c->c<f->e c)->i ((f:Z),g)=Y (.inr m)):loop i (a,g)=Y (open Classical in if∀b,d<=b->b<f->e b then m else l):=by
 classical
 subst r;rw[<-bQ];refine ae.for f (λb t=>t=g/\∀c,d<=c->c<b->e c) rfl ⟨bn,λc j u=>by omega⟩ q ?_ ?_
 ·rintro b _ n j ⟨rfl,o⟩;rw[s b n j o];by_cases k:e b
  ·rw[au k];grind [cl,bu]
  rw[az k];exact bu.2 (by rw[az (λp=>k (p b n j))])
 rintro _ ⟨rfl,o⟩;simp_all [bu,au]
theorem Iw {d:Z×bt->bv dQ} (c:X) (b:X->Prop) (h:∀a,a<c->d ((a:Z),())=Y (open Classical in if b a then .inl (((a+1:X):Z),()) else .inr (.inr ((a:Z),())))) (m:d ((c:Z),())=Y (.inr (.inl ()))):ae (loop d (0,())) (λi=>match i with|.inl _=>∀a,a<c->b a|.inr j=>0<=j.1/\¬∀a,a<c->b a):=by
 classical
 refine ae.for c (λa _=>∀e,e<a->b e) (i0:=0) rfl (λe k=>by omega) (da _) ?_ ?_
 ·rintro a ⟨⟩ _ g l;rw[h a g];by_cases f:b a
  ·rw[au f];grind [cl,bu]
  rw[az f];grind [bu]
 grind [bu]
end
theorem Kv (a:Z):cc.wrap a=a %4294967296:=by unfold ajV;exact az (ac:¬(bq&&br (a %4294967296>=(2147483648:Z)))=bp)
theorem Bl (a:Z):bE.wrap a=a %18446744073709551616:=by unfold ajV;exact az (ac:¬(bq&&br (a %18446744073709551616>=(9223372036854775808:Z)))=bp)
theorem Bm (b:0<=a) (c:a<18446744073709551616):bE.wrap a=a:=by grind [Bl]
theorem Kw (b:0<=a) (c:a<4294967296):cc.wrap a=a:=by grind [Kv]
theorem TJ (a:b<18446744073709551616):(ck 64 (b:Z)).toNat=b:=by grind
theorem Le (d:b<18446744073709551616) (f:e<18446744073709551616):eT .u64 (b:Z) (e:Z)=((b&&&e:X):Z):=by have a:((ck 64 (b:Z))&&&(ck 64 (e:Z))).toNat=b&&&e:=(by grind);have c:b&&&e<=b:=amM;unfold eT;rw[show bE.bits=64 from rfl,a];grind [Bm]
theorem Ld (d:b<4294967296) (f:e<4294967296):eT .u32 (b:Z) (e:Z)=((b&&&e:X):Z):=by have a:((ck 32 (b:Z))&&&(ck 32 (e:Z))).toNat=b&&&e:=(by grind);have c:b&&&e<=b:=amM;unfold eT;rw[show cc.bits=32 from rfl,a];grind [Kw]
theorem aa6 (c:b<18446744073709551616) (d:e<18446744073709551616):gk .u64 (b:Z) (e:Z)=((b|||e:X):Z):=by have a:(ck 64 (b:Z)|||ck 64 (e:Z)).toNat=b|||e:=(by grind);have f:b|||e<2^64:=amN c d;unfold gk;rw[show bE.bits=64 from rfl,a];grind [Bm]
theorem aa5 (c:b<4294967296) (d:e<4294967296):gk .u32 (b:Z) (e:Z)=((b|||e:X):Z):=by have a:(ck 32 (b:Z)|||ck 32 (e:Z)).toNat=b|||e:=(by grind);have f:b|||e<2^32:=amN c d;unfold gk;rw[show cc.bits=32 from rfl,a];grind [Kw]
theorem se (b:X) (d:0<=a) (f:a<18446744073709551616) (c:Z) (e:b<=64) (i:c=2^b-1):eT .u64 a c=a %2^b:=by obtain⟨k,rfl⟩:=gh d;have j:0<2^b:=jx b;have g:c=((2^b-1:X):Z):=(by grind);have h:2^b<=2^64:=tU ab e;grind [Le,alW]
theorem and_low32 (b:0<=a) (c:a<18446744073709551616):eT .u64 a 4294967295=a %4294967296:=se 32 b c _ ab ab
theorem m3 (a:Z):eJ .u64 a 32=Y (a/4294967296):=by have:eJ .u64 a 32=Y (a.fdiv 4294967296):=rfl;grind
theorem nT (b:0<=a) (c:a<=64):h0 .u64 d a=Y ((d*2^a.toNat) %18446744073709551616):=by unfold h0;rw[au b,Bl,show bE.bits=64 from rfl,hI aa]
theorem tu (b:0<=a) (c:a<=64):eJ .u64 d a=Y (d/2^a.toNat):=by unfold eJ;rw[au b,show bE.bits=64 from rfl,hI aa,amO _ (by grind)]
theorem Lg (a:X) (c:b<2^a):b|||(e*2^a)=b+e*2^a:=by rw[aj7,Nat.or_comm,r7,Nat.two_pow_add_eq_or_of_lt c]
theorem m0 (b:X) (e:0<=a) (h:a<2^b) (f:0<=d) (i:a<18446744073709551616) (j:d<18446744073709551616) (l:d %2^b=0):gk .u64 a d=a+d:=by obtain⟨g,rfl⟩:=gh e;obtain⟨c,rfl⟩:=gh f;have n:g<2^b:=(by grind);have m:c %2^b=0:=(by grind);rw[aa6 aa aa];have k:c=(c/2^b)*2^b:=(by grind [Nat.mul_comm,akO]);grind [Lg]
def aN (a:X):X:=if a=0 then 0 else a.log2+1
theorem fU {k:X}:aN b<=k↔b<2^k:=by grind [Nat.log2_lt,ajX,aN]
def ue:b<aN e↔2^b<=e:=by rw[<-Nat.not_le,fU,Nat.not_lt]
def PI (a b:X) (c:a<=b):2^a<=2^b:=tU ab c
def PJ (a b:X) (c:a<b):2^a<2^b:=amP ab c
def lv (a:e<=b):aN e<=aN b:=by rw[fU];have:=fU.1 (bc (aN b));omega
theorem yQ (a:aN b<=l) (c:aN e<=s):aN (b*e)<=l+s:=by simp_all [Nat.mul_lt_mul'',fU,kn]
theorem XJ (a:e<=s*b) (c:l<b):e+l<=(s+1)*b:=by grind
def Tv (a:X) (c:aN b<=a) (d:aN e<=a):aN (b+e)<=a+1:=by rw[fU] at*;omega
theorem abC (c:e*2^l=b*2^s) (d:0<e):0<b:=by
 rcases pB b with a|a
 ·simp_all [amQ,jx,amR]
 omega
theorem pP {m:X} (a:0<m):0<aN m:=ue.2 a
def LC {k:X} (a:2^k<=b) (c:b<2^(k+1)):aN b=k+1:=by have:=ue.2 a;have:=fU.2 c;omega
theorem wA (a:0<b):2^(aN b-1)<=b/\b<2^aN b:=
 ⟨ue.1 (by grind [pP]),fU.1 (bc _)⟩
theorem sl (d:0<b) (a:X):aN (b*2^a)=aN b+a:=by
 obtain⟨e,f⟩:=wA d;have i:=jx a;have h:=pP d;obtain⟨c,g⟩:∃c,aN b=c+1:=⟨aN b-1,aa⟩;rw[g] at e f|-;rw[(aa:c+1+a=(c+a)+1)];refine LC ?_ ?_
 ·simp_all [jj,kn]
 rw[(aa:c+a+1=(c+1)+a),kn];simp_all
theorem wB (b a:X):aN (b/2^a)=aN b-a:=by
 have c:=jx a;apply Nat.le_antisymm
 ·rw[fU,akN c,<-kn];exact fU.1 aa
 rcases cQ a (aN b) with d|d
 ·have:aN b-a-1<aN (b/2^a):=by
   rw[ue,amS c,<-kn];exact ue.1 aa
  omega
 omega
def vM (c:bA) (b:Z) (d:bA) (a:Z):bA:=
 if a=1 then c else if a=2 then !c else if a=3 then bq else br (0<b)||(br (b=0)&&d)
def kt (b a:X) (c:bA):Z:=
 if 2*(b %2^a)<2^a then-1 else if 2^a<2*(b %2^a) then 1 else if c then 1 else 0
def iI (e:bA) (a b:X) (c:bA) (d:Z):X:=
 if a %2^b=0/\c=bq then a/2^b
 else if vM e (kt a b c) (br (a/2^b %2=1)) d then a/2^b+1 else a/2^b
def II (b a c:X):b %2^(a+c)=(b/2^a %2^c)*2^a+b %2^a:=by rw[kn,Nat.mod_mul,aj7,r7]
def Mk (b a c:X):b/2^(a+c)=b/2^a/2^c:=by rw[kn,amT]
theorem Uh (m:bA) (b a c:X) (d:bA) (l:Z) (v:0<c):iI m b (a+c) d l=iI m (b/2^a) c (d||br (b %2^a≠0)) l:=by
 have k:=jx a;have j:=Nat.mod_lt b k;have q:¬(b %2^(a+c)=0/\d=bq)->kt b (a+c) d=kt (b/2^a) c (d||br (b %2^a≠0)):=by
  intro _;unfold kt;rw[II,kn];obtain⟨i,rfl⟩:∃i,c=i+1:=⟨c-1,aa⟩;rw[tV];generalize u:b/2^a %(2^i*2)=h;generalize t:b %2^a=n at j|-;generalize s:2^i=g;generalize r:2^a=e at j k|-;rw[show e*(g*2)=2*(g*e) by grind,show 2*(h*e+n)=2*(h*e)+2*n by grind];rcases r6 h g with f|f|f
  ·have o:(h+1)*e<=g*e:=jj _ f;grind
  ·grind
  have o:(g+1)*e<=h*e:=jj _ f;grind
 have p:(b %2^(a+c)=0/\d=bq)↔(b/2^a %2^c=0/\(d||br (b %2^a≠0))=bq):=by
  rw[II];cases d
  ·simp_all [amQ,b9,Bool.false_or,decide_eq_false_iff_not,ne_eq,Decidable.not_not]
  simp
 unfold iI;by_cases f:b %2^(a+c)=0/\d=bq
 ·rw[au f,au (p.1 f),Mk]
 simp_all [az,Mk]
def mB (b:bA) (a:Z):Z:=if b then 9223372036854775808+a else a
def rE (a:bA) (b:Z):Z:=
 if b=3\/(b=1/\a=bq)\/(b=2/\a=bp) then mB a 9218868437227405311 else mB a 9218868437227405312
def o8 (a:bA) (b:X) (c d:Z):Z:=
 if b<4503599627370496 then mB a b
 else if b=9007199254740992 then if c+1+1075>=2047 then rE a d else mB a ((c+1+1075)*4503599627370496)
 else if c+1075>=2047 then rE a d else mB a ((c+1075)*4503599627370496+(b-4503599627370496))
def eG (b:X) (a:Z):Z:=max (a+aN b-1-52) (-1074)
def l5 (d:bA) (b:X) (a:Z) (e:bA) (c:Z):Z:=
 if eG b a<=a then o8 d (b*2^(a-eG b a).toNat) (eG b a) c
 else o8 d (iI d b (eG b a-a).toNat e c) (eG b a) c
theorem ad6 {m k:X} {e:Z} (a:k<aN m):eG (m/2^k) (e+k)=eG m e:=by grind [wB,eG]
theorem acB {k:X} (i:k+53<aN b):l5 j b a g d=l5 j (b/2^k) (a+k) (g||br (b %2^k≠0)) d:=by have h:=ad6 (m:=b) (k:=k) (e:=a) aa;have l:a+k<eG b a:=(by grind [eG]);unfold l5;rw[h,az aa,az aa];obtain⟨c,f⟩:∃c:X,eG b a-a=(k+c:X):=⟨(eG b a-a-k).toNat,aa⟩;rw[f,(aa:(eG b a-(a+k)).toNat=c),fJ,Uh _ _ _ _ _ _ aa]
def Ah:X->X->X
 |0,_=>0
 |f+1,a=>if(2*Ah f (a/4)+1)*(2*Ah f (a/4)+1)<=a then 2*Ah f (a/4)+1 else 2*Ah f (a/4)
def Ia (a:X):X:=Ah (aN a) a
abbrev pi:=bA×aif×bt
abbrev fX:=bA×pi×Z×bt
def hg (a:pi):Z:=if a.1 then-ag a.2.1 else ag a.2.1
def aR (a:Z):pi:=(br (a<0),eR a.natAbs,())
theorem oB (a:Z):hg (aR a)=a:=by unfold hg aR;simp only[sL,aiF];omega
theorem mj (a:Z):aQ (aR a).2.1:=oc _
def DN (a:Z):e5 (aR a).2.1:=xh _
theorem ih (a:Z):ag (aR a).2.1=a.natAbs:=sL _
theorem xf:(aR a).2.1=[]↔a=0:=by show eR a.natAbs=[]↔_;grind [UK]
theorem My {neg:bA} (a:aQ c) (b:e5 c):(neg&&br (c≠[]),c,())=aR (hg (neg,c,())):=by have e:=e7 a;have f:c=eR (ag c).toNat:=e5.eq a b;have g:c=[]↔ag c=0:=⟨λd=>by rw[d];rfl,e5.zero a b⟩;unfold aR hg;grind
def FC:X->X->X
 |0,_=>0
 |f+1,a=>if a %2=0 then FC f (a/2)+1 else 0
def c3 (a:X):X:=if a=0 then 0 else FC (aN a) a
def ad0:∀{a n:X},0<n->n<2^a->∃b,n=(2*b+1)*2^FC a n:=by
 intro a
 induction a with
 |zero=>omega
 |succ a e=>
  intro n f g;unfold FC;split
  ·rename_i c;obtain⟨b,d⟩:=e (n:=n/2) aa aa;refine⟨b,?_⟩;rw[tV,<-tT,<-d];omega
  rename_i c;exact⟨n/2,aa⟩
theorem tz {n:X} (b:0<n):∃a,n=(2*a+1)*2^c3 n:=by unfold c3;rw[az aa];exact ad0 b (fU.1 (bc _))
theorem OG:∀{s t a b:X},(2*a+1)*2^s=(2*b+1)*2^t->s=t/\a=b
 |0,0,a,b,c=>by omega
 |0,t+1,a,b,c=>by grind
 |s+1,0,a,b,c=>by grind
 |s+1,t+1,a,b,c=>by rw[tV,<-tT,tV,<-tT] at c;obtain⟨d,e⟩:=OG (s:=s) (t:=t) (a:=a) (b:=b) aa;omega
theorem yb {a:X} (c:b=(2*a+1)*2^e):c3 b=e:=by have f:=jx e;have d:0<b:=(by grind);grind [OG,tz]
theorem Kk (e:0<b) (c:X):c3 (b*2^c)=c3 b+c:=by obtain⟨d,f⟩:=tz e;refine yb (a:=d) ?_;grind
theorem ad1 {n:X} (a:0<n):n/2^c3 n %2=1:=by grind [alX,ajX,tz]
theorem vK {n:X} (a:0<n):c3 n<aN n:=by obtain⟨b,c⟩:=tz a;rw[ue];grind
theorem u6 {n k:X} (d:0<n):k<=c3 n↔n %2^k=0:=by
 obtain⟨c,f⟩:=tz d;constructor
 ·intro i;obtain⟨a,b⟩:∃a,c3 n=a+k:=⟨c3 n-k,aa⟩;rw[b,kn,<-tT] at f;simp_all
 intro j;rcases cQ (c3 n) k with e|e
 ·exfalso;obtain⟨a,b⟩:∃a,k=c3 n+(a+1):=⟨k-c3 n-1,aa⟩;have g:n=n/2^k*2^k:=(by grind [Nat.mul_comm,akO]);have l:=jx (c3 n);have h:(2*c+1)*2^c3 n=(2*(n/2^k*2^a))*2^c3 n:=by
   grind
  grind [Nat.eq_of_mul_eq_mul_right]
 omega
def qk (b a:Z):Z:=b*2^a.toNat/2^(-a).toNat
def hD (a b:Z):ah9:=
 if a=0 then Y 0
 else if b+c3 a.natAbs< -65536\/65536<b+aN a.natAbs then bo
 else Y (qk a (b+65536))
def ay:ah9->fX
 |none=>(bp,(bq,[],()),0,())
 |some a=>if a=0 then(bq,(bq,[],()),0,()) else(bq,aR (a/2^c3 a.natAbs),(c3 a.natAbs:Z)-65536,())
def fI (a:Z):Prop:=aN a.natAbs<=131072
instance(a:Z):aiU (fI a):=inferInstanceAs (aiU (_<=_))
def pR (a:Z):ah9:=if fI a then Y a else bo
def cM (b:ah9):Prop:=∀a,b=Y a->fI a
theorem mv (b:Z) (a:X):(b*2^a).natAbs=b.natAbs*2^a:=by rw[ajY,Int.natAbs_pow];rfl
theorem Hm (c:a.natAbs %2^b=0):a/2^b*2^b=a:=by grind [Int.ediv_mul_cancel,Int.ofNat_dvd_left,Nat.dvd_of_mod_eq_zero]
theorem Av (c:a.natAbs %2^b=0):(a/2^b).natAbs=a.natAbs/2^b:=by grind [mv,alX,ajX,Hm]
theorem nS (b:Z) (a:X):qk b a=b*2^a:=by grind [aiT,qk]
theorem x7 (b:Z) (a:X):qk b (-(a:Z))=b/2^a:=by simp_all [Int.neg_neg,fJ,qk]
def cH (a:Z):Z:=a/2^c3 a.natAbs
def hA (a:Z):Z:=(c3 a.natAbs:Z)-65536
theorem te (a:Z):cH a*2^c3 a.natAbs=a:=by
 rcases pB a.natAbs with b|b
 ·obtain rfl:a=0:=aa;rfl
 exact Hm ((u6 b).1 (bc _))
def OE (b:a≠0):(cH a).natAbs=a.natAbs/2^c3 a.natAbs:=Av ((u6 aa).1 (bc _))
theorem js (c:a≠0):cH a≠0:=λb=>by grind [te]
def OF (b:d≠0):c3 (cH d).natAbs=0:=by rw[OE b];have:=ad1 (n:=d.natAbs) aa;exact yb (a:=d.natAbs/2^c3 d.natAbs/2) aa
theorem X9 (b:a≠0):aN (cH a).natAbs=aN a.natAbs-c3 a.natAbs:=by rw[OE b,wB]
theorem EI {v:Z}:cH v<0↔v<0:=by
 have c:=te v;have b:(0:Z)<2^c3 v.natAbs:=m9 ab;constructor
 ·intro a;have:=Int.mul_neg_of_neg_of_pos a b;omega
 grind [ajh,akY,aiB]
theorem MA (b:a≠0):ay (Y a)=(bq,aR (cH a),hA a,()):=by show(if a=0 then _ else _)=_;rw[az b];rfl
theorem EA {v:Z} (i:-65536<=a) (c:v=d*2^(a+65536).toNat):hD d a=pR v:=by
 obtain⟨e,g⟩:∃e:X,a+65536=e:=⟨(a+65536).toNat,aa⟩;rw[g,fJ] at c;unfold hD pR;by_cases f:d=0
 ·subst f;simp only[qx] at c;subst c;rw[au bn,au (show fI 0 from(by decide:aN 0<=131072))]
 rw[az f];have h:aN v.natAbs=aN d.natAbs+e:=(by grind [mv,sl]);by_cases b:fI v
 ·rw[au b];unfold fI at b;rw[az aa,g,nS,c]
 rw[az b];unfold fI at b;grind
theorem XA (b:fI a):hD (cH a) (hA a)=Y a:=by
 by_cases c:a=0
 ·subst c;rfl
 rw[EA (v:=a) (by grind [hA]) (by
  grind [te,c3,hA])]
 exact au b
theorem IG (f a:Z):cM (hD f a):=by
 intro i b;unfold hD at b;split at b
 ·cases b;show aN 0<=_;decide
 split at b
 ·cases b
 rename_i g h;cases b;unfold fI;rcases amU 0 (a+65536) with e|e
 ·obtain⟨c,d⟩:∃c:X,a+65536=c:=⟨(a+65536).toNat,aa⟩;grind [nS,mv,sl]
 obtain⟨c,d⟩:∃c:X,a+65536=-(c:Z):=⟨(-(a+65536)).toNat,aa⟩;rw[d,x7,Av ((u6 aa).1 aa),wB];omega
theorem LS (a:Z):cM (pR a):=by intro c b;grind [pR]
def PZ (c a d b:X) (f:0<a):c*2^d/a=c*2^(d+b)/a/2^b:=by have e:=jx b;rw[amT,kn,<-tT,Nat.mul_div_mul_right _ _ e]
theorem abP (d a c b:X) (m:0<a):d*2^c %a≠0↔(d*2^(c+b) %a≠0\/d*2^(c+b)/a %2^b≠0):=by
 have t:=jx b;have r:=tR (d*2^c) a;have j:=tR (d*2^(c+b)) a;have k:=tR (d*2^(c+b)/a) (2^b);rw[<-PZ d a c b m] at k;generalize d*2^(c+b)/a=o at*;generalize d*2^c/a=g at*;generalize d*2^c %a=i at*;generalize d*2^(c+b) %a=h at*;generalize o %2^b=p at*;rw[kn] at j;generalize 2^b=e at*;generalize 2^c=v at*;have l:i*e=a*p+h:=(by have s:(a*g+i)*e=a*o+h:=(by rw[r,j,tT]);rw[<-k,mN,Nat.mul_add] at s;have w:a*g*e=a*(e*g):=(by grind);omega);constructor
 ·intro y;have x:0<i*e:=amV aa t;by_cases n:h=0
  ·right;intro u;subst u;subst n;simp at l;omega
  exact .inl n
 rintro f q;subst q;simp only[amR] at l;rcases f with f|f
 ·omega
 have:=amV m (aa:0<p);omega
def rG (a b c:X) (f:bA) (d e:Z):Z:=l5 f (b*2^a/c) (d-a) (br (b*2^a %c≠0)) e
def E4 (h:0<b) (d:0<e) (i:58+aN e<=aN b+l):58<=aN (b*2^l/e):=by
 rcases cQ 57 (aN (b*2^l/e)) with a|a
 ·exact a
 exfalso;have c:b*2^l/e<2^57:=fU.1 a;rw[akN d] at c;have f:=(wA d).2;have g:b*2^l<2^57*2^aN e:=i9 c (alY _ (Nat.le_of_lt f));rw[<-kn,<-fU,sl h] at g;omega
def abN (j:0<e) (f:0<l) (i:58+aN l<=aN e+b) (n:b<=s):rG s e l g a d=rG b e l g a d:=by obtain⟨c,rfl⟩:∃c,s=b+c:=⟨s-b,aa⟩;unfold rG;have o:=E4 j f i;have h:=PZ e l b c f;have m:c+53<aN (e*2^(b+c)/l):=(by have:=wB (e*2^(b+c)/l) c;rw[<-h] at this;omega);rw[acB (k:=c) m,<-h,(aa:a-((b+c:X):Z)+c=a-b)];congr 1;rw[<-Bool.decide_or,cy];exact(abP e l b c f).symm
def Qr (a b:X) (c d:Z):Z:=l5 bq (Ia (b*2^a)) ((c-a)/2) (br (Ia (b*2^a)*Ia (b*2^a)≠b*2^a)) d
def x1 (a b:Z):Z:=if a=0 then 0 else l5 (br (a<0)) (cH a).natAbs (hA a) bq b
def m1 (a b:X):X:=59+aN b-aN a
def vt (a b c:Z):Z:=rG (m1 (cH a).natAbs (cH b).natAbs) (cH a).natAbs (cH b).natAbs (br (a<0)!=br (b<0)) (hA a-hA b) c
def abO {o5:Z} (c:a≠0) (e:d≠0) (f:m1 (cH a).natAbs (cH d).natAbs<=b):rG b (cH a).natAbs (cH d).natAbs (br (a<0)!=br (d<0)) (hA a-hA d) o5=vt a d o5:=by have g:=js c;have h:=js e;refine abN aa aa ?_ f;unfold m1;omega
def Qq (a:X) (b:Z):X:=if(b-((118-aN a:X):Z)) %2=0 then 118-aN a else 118-aN a+1
def JH (a b:Z):Z:=Qr (Qq (cH a).natAbs (hA a)) (cH a).natAbs (hA a) b
theorem e1 {a:bm h} (c:b<a.length):ao a (b:Z)=Y a[b]:=gN (ba c)
theorem Bj (a:b<9223372036854775808):ax (b:Z)=(b:Z):=ct aa aa
theorem cL {x:Z} (a:-9223372036854775808<=x) (b:x<=9223372036854775807):ax x=x:=ct a b
theorem bi (a:b<9223372036854775807):aP (b:Z)=((b+1:X):Z):=by grind [ct]
theorem fy {x:Z} (a:0<=x) (b:x<18446744073709551616):aM x=x:=Bm a b
theorem k9 {x:Z} (a:0<=x) (b:x<4294967296):dd x=x:=Kw a b
theorem ph (a:Z):dd a=a %4294967296:=Kv a
theorem rR (a:Z):aM a=a %18446744073709551616:=Bl a
theorem rv (b:0<=a) (c:a<18446744073709551616):dd (eT bE a 4294967295)=a %4294967296:=by rw[and_low32 b c,k9 aa aa]
theorem bf (a:bm h):al a=(a.length:Z):=rfl
theorem Fr {a:bm h} (e:b<=a.length):((Y (0:X)).bind λc=>(gu (b:Z)).bind λd=>(g9 c d a.length).map λ_=>(c,d))=Y (0,b):=by simp_all [aD,vh,p8,da]
theorem oA (n:aQ c) (o:c.length<=100000000):iy (c,())=Y (im c,()):=by
 unfold iy;refine bQ.1 ?_;refine ae.aK (P:=λk=>∃a:X,k.1=(a:Z)/\a<=c.length/\(∀b,a<=b->(i:b<c.length)->c[b]=0)/\e5 (c.take a)) ?_ ?_
 ·refine aiA (λf=>∃a:X,f.1=(a:Z)/\a<=c.length/\(∀b,a<=b->(i:b<c.length)->c[b]=0)) (λf=>f.1.toNat) ⟨c.length,bn,bc _,λb d e=>by omega⟩ ?_;rintro⟨_,_⟩ ⟨a,rfl,d,e⟩;rcases a with _|a
  ·refine bu.2 ⟨0,bn,da _,e,λl j=>by grind⟩
  have aq:ax (((a+1:X):Z)-1)=(a:Z):=(by grind [cL]);have h:br (((a+1:X):Z)>0)=bp:=aL aa;simp only[aq,h,aiN,bG,e1 (show a<c.length from d),aD];by_cases g:c[a]=0
  ·rw[gK,aL g];grind [cl,bu]
  rw[gK,aI g];refine bu.2 ⟨a+1,bn,d,e,λl j=>?_⟩;grind
 rintro⟨_,_⟩ ⟨a,rfl,d,e,m⟩;refine ae.of_eq (ai (Fr d) rfl) ?_;grind [Rl]
theorem yW (b:c.length<=100000000):uB (c,())=Y (c,()):=by unfold uB;have a:((cC (([]:aif).length+c.length)).bind λ_=>Y (([]++c:aif),()))=Y (c,()):=(by grind [dc]);show rB c.length (Y ([],())) ((cC (([]:aif).length+c.length)).bind λ_=>Y (([]++c:aif),()))=_;unfold rB;grind
theorem s3:(al c==0)=br (c=[]):=by simp_all [alR,gK,cy]
theorem wx (d:aQ c) (e:c.length<=100000000):lV (g,c,())=Y (aR (hg (g,c,())),()):=by unfold lV;refine ai (oA d e) ?_;have a:=My (neg:=g) (Kg c) (Rk c);have b:hg (g,im c,())=hg (g,c,()):=(by grind [Kh,hg]);rw[<-b,<-a];simp only[s3,cO];grind
def UH (c:a.natAbs<2^(32*b)):(aR a).2.1.length<=b:=by refine rc ?_;unfold aU;have d:(2^(32*b):X)=4294967296^b:=(by rw[alZ]);rw[d] at c;have:((4294967296^b:X):Z)=4294967296^b:=ac;omega
def Fit (a:Z):Prop:=(aR a).2.1.length<=31250
def UG (b:X) (c:aN a.natAbs<=32*b):(aR a).2.1.length<=b:=UH (fU.1 c)
def jF (b:aN a.natAbs<=1000000):Fit a:=UG 31250 aa
def X4 {b:pi} (c:aQ b.2.1) (a:b.2.1.length<=100000000):Cn (b,())=Y (aR (hg b),()):=by obtain⟨e,d,_⟩:=b;unfold Cn;exact ai (yW a) (ai (wx c a) rfl)
theorem FF (a:bA) (b:aif):hg (!a,b,())=-hg (a,b,()):=by unfold hg;cases a<;>simp
theorem Rx (b:aQ c) (a:bA):hg (bq,c,())=(hg (a,c,())).natAbs:=by have:=e7 b;unfold hg;cases a<;>simp<;>omega
def Ox (e:Fit a):sv (aR a,())=Y (aR (-a),()):=by unfold sv;have b:(aR a).2.1.length<=100000000:=ez e ab;refine ai (yW b) (ai (wx (mj a) b) ?_);have c:=FF (aR a).1 (aR a).2.1;have d:=oB a;rw[c];show Y (aR (-hg (aR a)),())=_;rw[d]
def BK (d:Fit a):uv (aR a,())=Y (aR a.natAbs,()):=by unfold uv;have b:(aR a).2.1.length<=100000000:=ez d ab;refine ai (yW b) (ai (wx (mj a) b) ?_);rw[Rx (mj a) (aR a).1];have c:=oB a;show Y (aR ((hg (aR a)).natAbs:Z),())=_;rw[c]
def Ri (c:Fit a):iy ((aR a).2.1,())=Y ((aR a).2.1,()):=by rw[oA (mj a) (ez c ab)];have b:=e5.eq (mj a) (DN a);show Y (eR (ag (aR a).2.1).toNat,())=_;rw[<-b]
def gB (a:Z):Z:=if a=0 then 0 else if a<0 then-1 else 1
def tv {z:Z} (a:Fit z):pV (aR z,())=Y (gB z,()):=by
 unfold pV;refine ai (Ri a) ?_;simp only[s3,cO,xf];unfold gB;split
 ·rfl
 show(bif br (z<0) then _ else _)=_;rw[cO];split<;>rfl
theorem ae.steps {i:h->bv (h⊕n)} {g:n->Prop} (f:X) (d:X->h->Prop) {m:h} (p:d 0 m) (r:∀b a,b<f->d b a->ae (i a) (λ|.inl t=>d (b+1) t|.inr c=>g c)) (q:∀a,d f a->ae (i a) (λ|.inl _=>b6|.inr c=>g c)):ae (jg.loop i m) g:=by
 have s:∀e b a,b+e=f->d b a->∃c,jZ i (e+1) a=Y c/\g c:=by
  intro e
  induction e with
  |zero=>
   intro b a o l;obtain rfl:b=f:=o;obtain⟨u,j,k⟩:=q a l;grind [jZ]
  |succ e v=>
   intro b a o l;obtain⟨u,j,k⟩:=r b a aa l;grind [jZ]
 obtain⟨c,j,k⟩:=s f 0 m aa p;exact⟨c,xF.2 ⟨_,j⟩,k⟩
theorem ye (b:aif) (a:X):ag (b.take (a+1))=ag (b.take a)+aU a*b.getD a 0:=by grind [ch,ajU,ip,bS,cl]
theorem aQ.getD {a:aif} (d:aQ a) (c:X):0<=a.getD c 0/\a.getD c 0<4294967296:=by
 rcases cQ c a.length with b|b
 ·rw[lR,ba b];exact d.get b
 grind
theorem mT (a:b<c.length):c.getD b 0=c[b]:=by grind
theorem o1 (a:c.length<=b):c.getD b 0=0:=by grind
theorem PR (r:aQ c) (s:aQ f) (y:c.length<=10000000) (z:f.length<=10000000):wS (c,f,())=Y (eR (ag c+ag f).toNat,()):=by
 unfold wS;refine bQ.1 ?_;refine ae.aK (P:=λh=>∃i p,h=(i,p,())/\aQ i/\aQ p/\i.length<=10000000/\p.length<=i.length/\ag i+ag p=ag c+ag f) ?_ ?_
 ·simp only[cO];refine ae.ite (λj=>bu.2 ⟨f,c,bn,s,r,z,?_,akZ _ _⟩) λj=>bu.2 ⟨c,f,bn,r,s,y,?_,bn⟩
  ·grind
  grind
 rintro _ ⟨d,m,rfl,B,C,I,F,w⟩;rw[<-w];clear w r s y z;dsimp only;have A:aP (al d)=((d.length+1:X):Z):=bi aa;have aq:fV 0 ((d.length+1:X):Z)=Y 0:=(by unfold fV;rw[cb ⟨aa,aa,by have:hC=4294967296:=rfl;omega⟩];rfl);rw[A,aq];refine ae.aK (P:=λh=>∃b a,h=(b,a,())/\a.length=d.length/\aQ a/\0<=b/\b<=1/\ag a+aU d.length*b=ag d+ag m) ?_ ?_
 ·refine ae.steps d.length (λe D=>∃b a,D=(b,(e:Z),a,())/\a.length=e/\aQ a/\0<=b/\b<=1/\ag a+aU e*b=ag (d.take e)+ag (m.take e)) ⟨0,[],bn,bn,aQ.nil,aa,aa,by simp[ag]⟩ ?_ ?_
  ·rintro e _ t ⟨b,a,rfl,n,k,l,q,v⟩;have G:=B.get t;have H:=C.getD e;have o:∃g,g=d[e]+b+m.getD e 0/\0<=g/\g<18446744073709551616/\g/4294967296<=1:=⟨_,bn,aa,aa,aa⟩;obtain⟨g,o,J,K,E⟩:=o;have u:br ((e:Z)<al d)=bp:=aL (by grind);simp only[u,bG,e1 t,aD];refine ae.aK (P:=λh=>h=(g/4294967296,a++[g %4294967296],())) ?_ ?_
   ·refine ae.aK (P:=λh=>h=(g,a,())) ?_ ?_
    ·simp only[cO];refine ae.ite (λj=>?_) λj=>?_
     ·grind [fy,bu,mT,e1,bf]
     have j:m.length<=e:=(by grind);rw[o1 j] at o;refine bu.2 ?_;rw[fy (x:=d[e]) aa aa,fy (x:=d[e]+b) aa aa,o,ak0]
    grind [dc,rv,m3,bu]
   rintro _ rfl;dsimp only;refine bu.2 ⟨g/4294967296,a++[g %4294967296],by rw[bi aa],by grind,k.snoc aa aa,aa,E,?_⟩;rw[qq,n,hV,ip t,ye];grind
  rintro _ ⟨b,a,rfl,n,k,l,q,v⟩;have u:br ((d.length:Z)<al d)=bq:=aI (by grind);simp only[u,bP];refine bu.2 ⟨b,a,bn,n,k,l,q,?_⟩;simp_all [fB,bc]
 rintro _ ⟨b,a,rfl,n,k,l,q,v⟩;dsimp only;rw[dc (by grind),k9 l aa];refine ae.of_eq (ai bn (ai (oA (k.snoc l aa) (by grind)) rfl)) ?_;grind [qq,im]
def iH (b:aif) (c:X):Prop:=∀a,c<=a->(d:a<b.length)->b[a]=0
def iH.lL (b a:X):iH (bJ b (0:Z)) a:=λd _ c=>by simp
def iH.set {b:aif} {a:X} (c:iH b a) (e:Z):iH (b.set a e) (a+1):=λd f g=>by rw[yx aa];exact c d aa _
def iH.JU {j:X} (a:iH c b) (f:Z) (g:j<b):iH (c.set j f) b:=λe d h=>by rw[yx aa];exact a e d _
theorem Ob (q:aQ c) (r:aQ f) (C:c.length<=10000000) (y:f.length<=c.length) (z:ag f<=ag c):wR (c,f,())=Y (eR (ag c-ag f).toNat,()):=by
 unfold wR;refine bQ.1 ?_;simp only[bf,h6 (aa:c.length<=4294967296),aD];refine ae.aK (P:=λh=>∃a b,h=(a,())/\a.length=c.length/\aQ a/\0<=b/\b<=1/\ag a-aU c.length*b=ag c-ag f) ?_ ?_
 ·refine ae.steps c.length (λd t=>∃b a,t=(b,(d:Z),a,())/\a.length=c.length/\aQ a/\iH a d/\0<=b/\b<=1/\ag a-aU d*b=ag (c.take d)-ag (f.take d)) ⟨0,_,bn,ac,aQ.lL _,iH.lL _ _,aa,aa,by simp[ag,pg]⟩ ?_ ?_
  ·rintro d _ l ⟨b,a,rfl,i,g,n,j,k,o⟩;have A:=q.get l;have B:=r.getD d;obtain⟨e,x,u,v⟩:∃e,e=c[d]-b-f.getD d 0/\-4294967296<=e/\e<4294967296:=⟨_,bn,aa,aa⟩;have m:br ((d:Z)<(c.length:Z))=bp:=aL aa;simp only[bf,m,bG,e1 l,aD];refine ae.aK (P:=λh=>h=(-(e/4294967296),a.set d (e %4294967296),())) ?_ ?_
   ·refine ae.aK (P:=λh=>h=(e %18446744073709551616,a,())) ?_ ?_
    ·simp_all [o1,bu,rR,e1,mT,ae.ite,cO]
    rintro _ rfl;dsimp only;rw[rv aa aa,lJ aa,m3];refine bu.2 ?_;rw[se 1 aa aa 1 ab ab];grind
   rintro _ rfl;dsimp only;refine bu.2 ⟨-(e/4294967296),a.set d (e %4294967296),by rw[bi aa],by grind,g.set aa aa,n.set _,aa,aa,?_⟩;rw[mG aa,n d (cd _) aa,hV,ip l,ye];grind
  rintro _ ⟨b,a,rfl,i,g,n,j,k,o⟩;have m:br ((c.length:Z)<(c.length:Z))=bq:=aI aa;simp only[bf,m,bP];refine bu.2 ⟨a,b,bn,i,g,j,k,?_⟩;simp_all [fB,bc]
 rintro _ ⟨a,b,rfl,i,g,j,k,o⟩;dsimp only;have p:=g5 g;have w:=fN c.length;rw[i] at p;have s:b=0:=(by grind);subst s;refine ae.of_eq (ai (oA g aa) rfl) ?_;grind [im]
def fE (a b:Z):Z:=if a<b then-1 else if b<a then 1 else 0
theorem B0 (a b:Z):uq (a,b,())=Y (fE a b,()):=by grind [uq,sr,fE]
theorem T8 (a b:Z):B2 (a,b,())=Y (fE a b,()):=by grind [B2,B4,fE]
theorem FG (e:aQ c) (g:aQ f) (h:b<c.length) (i:b<f.length) (a:ag (c.drop (b+1))=ag (f.drop (b+1))) (l:c[b]<f[b]):ag c<ag f:=by rw[oC c b aa,oC f b aa,mF h,mF i,a];have d:=g5 (e.take b);have j:=e7 (g.take b);rw[fQ,hI aa] at d;have k:aU b*(c[b]+1)<=aU b*f[b]:=jL aa (fr (fN b));grind
theorem qp (a:aQ f) (b:aQ c) (d:e5 c) (e:f.length<c.length):ag f<ag c:=by have g:=g5 a;have h:=e5.low b d (by grind);have i:=pa (m:=f.length) (n:=c.length-1) aa;omega
theorem GM (g:aQ c) (h:aQ f) (q:e5 c) (r:e5 f) (u:c.length<=10000000) (v:f.length<=10000000):wQ (c,f,())=Y (fE (ag c) (ag f),()):=by
 unfold wQ;refine bQ.1 ?_;simp only[fO,bf];by_cases m:c.length=f.length
 ·rw[aL (aa:(c.length:Z)=f.length)];simp only[gQ,bP];refine ae.aK (P:=λn=>match n with|.inl _=>ag c=ag f|.inr o=>o=(fE (ag c) (ag f),())) ?_ ?_
  ·refine ae.steps c.length (λd p=>p=(((c.length:X):Z)-1-d,())/\ag (c.drop (c.length-d))=ag (f.drop (c.length-d))) ⟨?_,?_⟩ ?_ ?_
   ·grind [cL]
   ·rw[nZ aa,nZ aa]
   ·rintro d _ s ⟨rfl,e⟩;obtain⟨a,t⟩:∃a,c.length=a+1+d:=⟨c.length-1-d,aa⟩;have aq:((c.length:X):Z)-1-(d:Z)=(a:Z):=aa;have j:a<c.length:=aa;have k:a<f.length:=aa;rw[(aa:c.length-d=a+1)] at e;simp only[aq,aL (aa:(a:Z)>=0),bG,e1 j,e1 k,aD,T8];by_cases i:c[a]=f[a]
    ·simp only[aL i,gQ,bP];grind [mF,cL,bu]
    simp only[aI i,ma,bG];refine bu.2 ?_;show(fE c[a] f[a],())=_;have l:fE c[a] f[a]=fE (ag c) (ag f):=by
     unfold fE;rcases Int.lt_or_gt_of_ne i with b|b
     ·rw[au b,au (FG g h j k e b)]
     have:=FG h g k j e.symm b;omega
    rw[l]
   rintro _ ⟨rfl,e⟩;have aq:¬(((c.length:X):Z)-1-(c.length:Z)>=0):=aa;simp_all [bu,aI,bP]
  grind [bu,fE,ag]
 rw[aI (aa:¬(c.length:Z)=f.length)];simp only[ma,bG,B0,aD];refine bu.2 ?_;congr 1;unfold fE;rcases Nat.lt_or_gt_of_ne m with b|b
 ·rw[au aa,au (qp g h r b)]
 have:=qp h g q b;omega
def Au {x y:Z} (b:0<=x/\x<4294967296) (a:0<=y/\y<4294967296):0<=x*y/\x*y<=18446744065119617025:=by refine⟨m8 b.1 a.1,?_⟩;have c:x*y<=4294967295*y:=m7 aa a.1;omega
theorem acG (x:0<=a/\a<4294967296) (w:aQ c) (K:b+c.length<e) (I:e<=100000000) (u:f.length=e) (v:aQ f) (z:iH f (b+c.length)) {p:iG->Prop} (J:∀h d,d.length=e->aQ d->iH d (b+c.length)->0<=h->h<4294967296->ag d+aU (b+c.length)*h=ag f+aU b*(a*ag c)->p (h,d,())):ae (loop (σ:=pJ) (ρ:=iG) (λ(k,j,m,_)=>
 bif br (j<al c) then
 (ao c j).bind λr=>
 rd m (ax ((b:Z)+j)) λs=>
 wr m (ax ((b:Z)+j)) (dd (eT bE (aM (aM (aM (aM a*aM r)+aM s)+k)) 4294967295)) λH=>
 (eJ bE (aM (aM (aM (aM a*aM r)+aM s)+k)) 32).bind λG=>
 Y (.inl (G,aP j,H,())) else
 Y (.inr (k,m,()))) (0,0,f,())) p:=by
 refine ae.steps c.length (λg D=>∃h d,D=(h,(g:Z),d,())/\d.length=e/\aQ d/\iH d (b+c.length)/\0<=h/\h<4294967296/\ag d+aU (b+g)*h=ag f+aU b*(a*ag (c.take g))) ⟨0,f,bn,u,v,z,aa,aa,by simp[ag]⟩ ?_ ?_
 ·rintro g _ l ⟨h,d,rfl,aw,o,q,A,B,C⟩;have y:=w.get l;have M:=o.get (n:=b+g) aa;have L:=Au x y;obtain⟨i,N,E,F⟩:∃i,i=a*c[g]+d[b+g]+h/\0<=i/\i<18446744073709551616:=⟨_,bn,aa,aa⟩;simp only[aL (show(g:Z)<al c by grind),bG,e1 l,aD];have aq:ax ((b:Z)+(g:Z))=((b+g:X):Z):=(by grind [cL]);rw[aq,lF aa];have t:aM (aM (aM (aM a*aM c[g])+aM d[b+g])+h)=i:=by
   grind [fy]
  rw[t,rv E F,lJ aa,m3];refine bu.2 ⟨i/4294967296,d.set (b+g) (i %4294967296),by rw[bi aa],by grind,o.set aa aa,q.JU _ aa,aa,aa,?_⟩;rw[mG aa,(aa:b+(g+1)=(b+g)+1),hV,ip l];grind [tF,ajA]
 rintro _ ⟨h,d,rfl,aw,o,q,A,B,C⟩;simp_all [fB,bc,bu,aI,bf,bP,al]
theorem adS (v:aQ f) (w:aQ c) (z:f.length<=10000000) (A:c.length<=10000000):Cr (f,c,())=Y (eR (ag f*ag c).toNat,()):=by
 unfold Cr;refine bQ.1 ?_;simp only[s3];refine ae.aK (P:=λp=>match p with|.inl _=>f≠[]/\c≠[]|.inr h=>h=(eR (ag f*ag c).toNat,())) ?_ ?_
 ·by_cases l:f=[]
  ·simp only[aL l];refine bu.2 ?_;subst l;simp[ag];rfl
  simp only[aI l,aiN,bG];by_cases r:c=[]
  ·simp only[aL r,bG];refine bu.2 ?_;subst r;simp[ag];rfl
  simp_all [aI,bP,bu]
 rintro(p|p) x
 rotate_left
 ·grind [bu]
 clear x;dsimp only;have u:ax (al f+al c)=((f.length+c.length:X):Z):=(by grind [cL,bf]);rw[u,h6 aa,bM];refine ae.aK (P:=λh=>∃a,h=(a,())/\a.length=f.length+c.length/\aQ a/\ag a=ag f*ag c) ?_ ?_
 ·refine ae.steps f.length (λb y=>∃a,y=((b:Z),a,())/\a.length=f.length+c.length/\aQ a/\iH a (b+c.length)/\ag a=ag (f.take b)*ag c) ⟨_,bn,ac,aQ.lL _,iH.lL _ _,by simp[ag,pg]⟩ ?_ ?_
  ·rintro b _ m ⟨a,rfl,aw,g,q,t⟩;simp only[aL (show(b:Z)<al f by grind),bG,e1 m,bM];refine ae.aK (P:=λh=>∃e d,h=(e,d,())/\d.length=f.length+c.length/\aQ d/\iH d (b+c.length)/\0<=e/\e<4294967296/\ag d+aU (b+c.length)*e=ag a+aU b*(f[b]*ag c)) (acG (v.get m) w aa aa aw g q λe d s n i j k o=>⟨e,d,bn,s,n,i,j,k,o⟩) ?_;rintro _ ⟨e,d,rfl,s,n,i,j,k,o⟩;have aq:ax ((b:Z)+al c)=((b+c.length:X):Z):=(by grind [cL,bf]);dsimp only;rw[aq,k9 j k,lJ aa];refine bu.2 ⟨d.set (b+c.length) e,by rw[bi aa],by grind,n.set j k,?_,?_⟩
   ·rw[(aa:b+1+c.length=b+c.length+1)];exact i.set _
   rw[mG aa,i _ (bc _) aa,ip m,Int.sub_zero,o,t];grind
  rintro _ ⟨a,rfl,aw,g,q,t⟩;simp only[aI (show¬((f.length:Z)<al f) by grind),bP];refine bu.2 ⟨a,bn,aw,g,?_⟩;grind
 rintro _ ⟨a,rfl,aw,g,q⟩;refine ae.of_eq (ai (oA g (by grind)) rfl) ?_;grind [im]
theorem WZ:∀a:X,a<256->qn En (a:Z)=Y (aN a:Z):=by have b:(bI 256).all (λa=>qn En (a:Z)==Y (aN a:Z))=bp:=(by decide+kernel);grind
theorem JV {x y:Z} (a:0<=y) (b:y<=32):eJ .u32 x y=Y (x/2^y.toNat):=by unfold eJ;rw[au a,show cc.bits=32 from rfl,hI aa,amO _ (by grind)]
def QQ (b:0<=a) (c:a<=32):h0 .u32 d a=Y ((d*2^a.toNat) %4294967296):=by unfold h0;rw[au b,Kv,show cc.bits=32 from rfl,hI aa]
def aeC (b:0<=a) (c:a<256):alU.wrap a=a:=by unfold ajV;refine(az (ac:¬(bq&&br (a %256>=(128:Z)))=bp)).trans ?_;show a %256=a;omega
def LD {n k:X} (a:2^k<=n):aN n=aN (n/2^k)+k:=by rw[wB];have:=ue.2 a;omega
theorem Im {n:X} (g:n<4294967296):wW ((n:Z),())=Y ((aN n:Z),()):=by
 unfold wW;refine bQ.1 ?_;refine ae.aK (P:=λd=>∃a b:X,d=((a:Z),(b:Z),())/\a<65536/\aN n=aN a+b/\b<=16) ?_ ?_
 ·simp only[cO];refine ae.ite (λe=>?_) λe=>?_
  ·rw[JV ab ab];refine bu.2 ⟨n/2^16,16,?_,aa,LD aa,aa⟩;simp
  exact bu.2 ⟨n,0,bn,aa,bn,aa⟩
 rintro _ ⟨a,b,rfl,e,h,i⟩;refine ae.aK (P:=λd=>∃a b:X,d=((a:Z),(b:Z),())/\a<256/\aN n=aN a+b/\b<=24) ?_ ?_
 ·simp only[cO];refine ae.ite (λc=>?_) λc=>?_
  ·rw[JV ab ab];refine bu.2 ⟨a/2^8,b+8,?_,aa,by have:=LD (n:=a) (k:=8) aa;omega,aa⟩;grind [ct]
  grind [bu]
 rintro _ ⟨f,o,rfl,c,j,l⟩;dsimp only;rw[aeC aa aa,WZ f c];refine bu.2 ?_;have m:aN f<=8:=fU.2 aa;grind [ct]
theorem Tw {l:aif} {x:Z} (g:aQ l) (p:0<x):aN (ag l+aU l.length*x).toNat=32*l.length+aN x.toNat:=by
 obtain⟨b,rfl⟩:=gh (fr p);obtain⟨d,o⟩:=gh (e7 g);have f:=g5 g;rw[o] at f|-;have n:aU l.length=((2^(32*l.length):X):Z):=(by simp_all [alZ,aU]);rw[n] at f|-;generalize 32*l.length=a at*;have h:0<b:=aa;have j:((d:Z)+((2^a:X):Z)*(b:Z)).toNat=d+2^a*b:=aa;show aN ((d:Z)+((2^a:X):Z)*(b:Z)).toNat=_;rw[j];obtain⟨e,i⟩:=wA h;have q:=pP h;obtain⟨c,m⟩:∃c,aN b=c+1:=⟨aN b-1,aa⟩;show _=a+aN b;rw[m] at e i|-;have r:d<2^a:=aa;refine LC (k:=a+c) ?_ ?_
 ·rw[kn];have:=alY (2^a) e;grind
 rw[tV,kn] at*;have:=alY (2^a) (aa:b+1<=2^c*2);grind
theorem NN (d:aQ c) (h:e5 c) (k:c.length<=10000000):zh (c,())=Y ((aN (ag c).toNat:Z),()):=by
 unfold zh;simp only[s3,cO];split
 ·rename_i a;subst a;rfl
 rename_i a;have m:0<c.length:=yy.2 a;have aq:ax (al c-1)=((c.length-1:X):Z):=(by grind [cL,bf]);rw[aq,e1 aa];have e:=d.get (n:=c.length-1) aa;have i:c[c.length-1]≠0:=h _ (by rw[amW,ba aa]);have f:ag c=ag (c.take (c.length-1))+aU (c.length-1)*c[c.length-1]:=(by grind [ip,ch]);have b:=Tw (l:=c.take (c.length-1)) (x:=c[c.length-1]) (d.take _) aa;rw[fQ,hI aa,<-f] at b;rw[b];obtain⟨n,g⟩:=gh e.1;rw[g] at e|-;refine ai bn (ai (Im (n:=n) aa) ?_);have j:aN n<=32:=fU.2 aa;grind [cL]
def wz (b:Fit a):su (aR a,())=Y ((aN a.natAbs:Z),()):=by unfold su;refine ai (Ri b) (ai (NN (mj a) (DN a) (ez b ab)) ?_);rw[ih];rfl
theorem Xb (q:e=(2*l+1)*2^b) (m:e<2^32):e&&&(2^32-e)=2^b:=by
 have p:=jx b;have n:0<e:=(by grind);obtain⟨d,g⟩:∃d,e=d+1:=⟨e-1,aa⟩;have k:d=2^b*(2*l)+(2^b-1):=(by grind);have r:e=2^b*(2*l+1)+0:=(by grind);refine amX λa=>?_;rw[amY,g,Nat.testBit_two_pow_sub_succ aa,<-g];have aq:e.testBit a=if a<b then bq else(2*l+1).testBit (a-b):=by grind
 have i:d.testBit a=if a<b then(2^b-1).testBit a else(2*l).testBit (a-b):=by rw[k,Nat.testBit_two_pow_mul_add _ aa]
 rw[aq,i,alO];by_cases f:a<b
 ·grind
 rw[az f,az f];by_cases j:b=a
 ·subst j;have c:b<32:=by
   rcases cQ b 32 with c|c
   ·exact c
   have:=tU (ab:1<=2) c;omega
  grind
 obtain⟨h,o⟩:∃h,a-b=h+1:=⟨a-b-1,aa⟩;grind
theorem TD:∀a:X,a<32->ao pQ (2^a*125613361 %4294967296/2^(27:Z).toNat)=Y (a:Z):=by have b:(bI 32).all (λa=>ao pQ (2^a*125613361 %4294967296/2^(27:Z).toNat)==Y (a:Z))=bp:=(by decide+kernel);grind
theorem Rq (e:0<b) (c:b<4294967296) (a:Z):dd (eT cc (b:Z) (dd (0-(b:Z)))*a)=2^c3 b*a %4294967296:=by obtain⟨g,f⟩:=tz e;have aq:dd (0-(b:Z))=((2^32-b:X):Z):=(by grind [ph]);have d:((2^c3 b:X):Z)=2^c3 b:=ac;rw[aq,Ld c aa,Xb f c,ph,d]
theorem Rr {n:X} (b:0<n) (a:n<4294967296):wX ((n:Z),())=Y ((c3 n:Z),()):=by have e:c3 n<32:=i9 (vK b) (fU.2 a);have d:=TD _ e;have c:=JV (x:=dd (eT cc (n:Z) (dd (0-(n:Z)))*125613361)) (y:=27) ab ab;rw[Rq b a 125613361] at c;unfold wX;show(bif (n:Z)==0 then Y (32,()) else(eJ cc (dd (eT cc (n:Z) (dd (0-(n:Z)))*125613361)) 27).bind λf=>(ao pQ f).bind λg=>Y (ax g,()))=_;rw[a1 (by grind),Rq b a 125613361,c];refine ai bn (ai d ?_);grind [cL]
theorem Rs {x:Z} (r:ag (c.take b)=0) (g:b<c.length) (h:aQ c) (s:c[b]≠0):c3 (ag c).toNat=32*b+c3 (c[b]).toNat:=by
 have q:=h.get g;rw[oC c b aa,r,mF g];have p:=e7 (h.drop (b+1));generalize ag (c.drop (b+1))=u at*;generalize c[b]=v at*;obtain⟨d,rfl⟩:=gh q.1;obtain⟨e,rfl⟩:=gh p;have i:0<d:=aa;obtain⟨j,m⟩:=tz i;have t:c3 d<32:=i9 (vK i) (fU.2 aa);have o:aU b=((2^(32*b):X):Z):=(by unfold aU;rw[alZ];simp);have k:(0+aU b*((d:Z)+4294967296*(e:Z))).toNat=(d+4294967296*e)*2^(32*b):=(by rw[o,ajB,r7 (d+4294967296*e)];have:((2^(32*b):X):Z)*((d:Z)+4294967296*(e:Z))=((2^(32*b)*(d+4294967296*e):X):Z):=(by rw[yt];simp);rw[this];rfl);show c3 (0+aU b*((d:Z)+4294967296*(e:Z))).toNat=32*b+c3 d;rw[k,Kk aa,aj7];congr 1;obtain⟨f,n⟩:∃f,32=c3 d+(f+1):=⟨31-c3 d,aa⟩;refine yb (a:=j+2^f*e) ?_;have l:(4294967296:X)=2^c3 d*(2^f*2):=by
  have:(4294967296:X)=2^32:=rfl;rw[this]
  conv=>lhs;rw[n]
  rw[kn,tV]
 rw[l]
 conv=>lhs;lhs;rw[m]
 grind
def Rt {z:Z} (o:Fit z) (r:z≠0):ze (aR z,())=Y ((c3 z.natAbs:Z),()):=by
 unfold ze;dsimp only;have i:=mj z;have u:=ih z;have s:(aR z).2.1.length<=31250:=o;generalize(aR z).2.1=b at*;have m:z.natAbs=(ag b).toNat:=aa;rw[m];refine bQ.1 (ae.aK (P:=λh=>match h with|.inl _=>b6|.inr p=>p=((c3 (ag b).toNat:Z),())) ?_ ?_)
 ·refine ae.steps b.length (λa q=>q=((a:Z),())/\ag (b.take a)=0) ⟨bn,bn⟩ ?_ ?_
  ·rintro a _ f ⟨rfl,e⟩;have j:=i.get f;simp only[aL (show(a:Z)<al b by simp only[bf];omega),bG,e1 f,aD,fO];by_cases c:b[a]=0
   ·simp only[aL c,gQ,bP];refine bu.2 ⟨by rw[bi aa],?_⟩;rw[ip f,c,e];simp
   simp only[aI c,ma,bG];have k:=Rs (x:=0) e f i c;rw[k];obtain⟨d,l⟩:=gh j.1;rw[l] at j c|-;have t:c3 d<32:=i9 (vK aa) (fU.2 aa);refine ae.of_eq (ai (Rr (n:=d) aa aa) rfl) ?_;show(ax (ax ((a:Z)*32)+(c3 d:Z)),())=_;rw[cL (x:=(a:Z)*32) aa aa,cL aa aa];congr 1;show _=((32*a+c3 d:X):Z);omega
  rintro _ ⟨rfl,e⟩;exfalso;rw[fB (bc _)] at e;omega
 rintro(h|h) g
 ·exact g.elim
 have g:h=_:=g;rw[g];exact bu.2 bn
theorem xY (a:X):((2^a:X):Z)=(2:Z)^a:=by simp
theorem jK (a:X):(0:Z)<2^a:=m9 ab
theorem vr (a:b<=31):(2:Z)^b<=2147483648:=by have c:=tU (ab:0<2) a;grind
def vq {p:X} (a:p<=32):(4294967296:Z)=2^p*2^(32-p):=by rw[<-li,(aa:p+(32-p)=32)];rfl
theorem qu (a:X):aU a=2^(32*a):=by unfold aU;rw[Int.pow_mul];rfl
theorem aa7 {k:X} {x y:Z} (j:k<=32) (e:0<=x) (f:x<2^k) (g:0<=y) (o:y<4294967296) (i:y %2^k=0):gk .u32 x y=x+y/\x+y<4294967296:=by
 have c:=jK k;have u:=vq j;have t:=jK (32-k);have s:y=2^k*(y/2^k):=(by have:=lO y (2^k);omega);have r:y/2^k<2^(32-k):=by
  rcases iX (y/2^k) (2^(32-k)) with b|b
  ·exact b
  have:=jL b (fr c);omega
 have q:2^k*(y/2^k+1)<=2^k*2^(32-k):=jL aa (fr c);have p:(2:Z)^k*(y/2^k+1)=2^k*(y/2^k)+2^k:=(by grind);have n:x+y<4294967296:=aa;refine⟨?_,n⟩;obtain⟨d,rfl⟩:=gh e;obtain⟨a,rfl⟩:=gh g;have m:d<2^k:=(by have:((d:X):Z)<((2^k:X):Z):=(by simpa using f);omega);have l:a %2^k=0:=(by have:((a %2^k:X):Z)=0:=(by simpa using i);omega);rw[aa5 aa aa];have h:a=(a/2^k)*2^k:=(by have:=tR a (2^k);rw[l,r7] at this;omega);rw[h,Lg k m];simp
theorem Ko {n:X} (F:aQ c) (am:c.length<=10000000) (V:n<=100000000):wT (c,(n:Z),())=Y (eR (ag c*2^n).toNat,()):=by
 unfold wT;simp only[s3,cO];split
 ·rename_i h;subst h;simp[ag];rfl
 refine bQ.1 ?_;obtain⟨a,e,K,ad,I,J⟩:∃a e:X,n=32*a+e/\e<32/\kc bK (n:Z) 32=some (a:Z)/\iM (n:Z) 32=some (e:Z):=by
  refine⟨n/32,n %32,aa,aa,?_,?_⟩
  ·unfold kc;rw[au ab,FO aa,ct aa aa];simp
  unfold iM;rw[au ab,FP aa];simp
 have l:=jK e;have E:=vq (p:=e) aa;have w:aP (ax ((a:Z)+al c))=((a+c.length+1:X):Z):=(by simp only[bf];rw[cL aa aa,(ac:(a:Z)+(c.length:Z)=((a+c.length:X):Z)),bi aa]);rw[I,J,aD,aD,w,h6 aa,aD];refine ae.aK (P:=λq=>∃d,q=(d,())/\d.length=a+c.length+1/\aQ d/\ag d=aU a*(2^e*ag c)) ?_ ?_
 ·refine ae.steps c.length (λb M=>∃d,M=((b:Z),d,())/\d.length=a+c.length+1/\aQ d/\iH d (a+b+1)/\(∀h:a+b<d.length,d[a+b]<2^e)/\ag d=aU a*(2^e*ag (c.take b))) ⟨_,bn,ac,aQ.lL _,iH.lL _ _,λh=>by simp;exact l,by simp[ag,pg]⟩ ?_ ?_
  ·rintro b _ m ⟨d,rfl,aw,g,i,t,o⟩;have s:=F.get m;have G:=g.get (n:=a+b) aa;have H:=t aa;dsimp only;rw[cb (show(b:Z)<al c by simp only[bf];omega),e1 m,bM];have aq:ax ((a:Z)+(b:Z))=((a+b:X):Z):=(by rw[cL aa aa];simp);have U:c[b]*2^e<4294967296*2^e:=ak1 s.2 l;have T:(2:Z)^e<=2147483648:=vr aa;obtain⟨f,r,N,O⟩:∃f,f=c[b]*2^e/\0<=f/\f<18446744073709551616:=⟨_,bn,akY s.1 (aiB l),aa⟩;have z:h0 bE (aM c[b]) (aM (e:Z))=Y f:=by
    rw[fy (x:=c[b]) aa aa,fy (x:=(e:Z)) aa aa,nT aa aa,fJ,<-r];congr 1;omega
   have A:f %4294967296 %2^e=0:=(by rw[amZ _ ⟨_,E⟩,r,ak2]);have B:f/4294967296<2^e:=(by refine rX ab ?_;rw[kN];omega);obtain⟨C,R⟩:=aa7 (k:=e) (x:=d[a+b]) (y:=f %4294967296) aa G.1 H aa aa A;rw[z];simp only[aD];rw[aq,lF aa,rv N O,C,lJ aa,m3,aD,bi aa,k9 aa aa,lJ (by simp;omega)];refine bu.2 ⟨(d.set (a+b) (d[a+b]+f %4294967296)).set (a+b+1) (f/4294967296),by rw[bi aa],by simp[aw],(g.set aa aa).set aa aa,?_,?_,?_⟩
   ·have:=(i.JU (d[a+b]+f %4294967296) (j:=a+b) aa).set (f/4294967296);exact this
   ·intro h;show((d.set (a+b) (d[a+b]+f %4294967296)).set (a+b+1) (f/4294967296))[a+b+1]'h<2^e
    rw[am0];exact B
   have Q:(d.set (a+b) (d[a+b]+f %4294967296))[a+b+1]'(by simp;omega)=0:=by rw[yx aa];exact i _ aa aa
   rw[mG (by simp;omega),Q,mG aa,o,ip m,hV,tF];have S:=lO f 4294967296;generalize f/4294967296=L at*;generalize f %4294967296=q at*;generalize(2:Z)^e=u at*;generalize c[b]=v at*;generalize d[a+b]=an at*;have D:q=v*u-4294967296*L:=aa;subst D;grind
  rintro _ ⟨d,rfl,aw,g,i,t,o⟩;dsimp only;rw[cn (show¬((c.length:Z)<al c) by simp only[bf];omega)];refine bu.2 ⟨d,bn,aw,g,?_⟩;rw[o,ch (cd _)]
 rintro _ ⟨d,rfl,aw,g,i⟩;refine ae.of_eq (ai (oA g (by show d.length<=_;omega)) rfl) ?_;show(im d,())=_;rw[im,i,qu,K,li];congr 3;grind
def Ud (k:aQ c) (o:c.length<=10000000):zo (c,(),())=Y (br (ag c≠0),()):=by
 unfold zo;refine bQ.1 ?_;refine ae.aK (P:=λi=>∃g,i=(g,())/\(0<=g↔ag c≠0)) ?_ ?_
 ·unfold G4;dsimp only;refine ae.aK (P:=λd=>match d with|.inl _=>ag c=0|.inr i=>0<=i.1/\ag c≠0) ?_ ?_
  ·refine ae.steps c.length (λa m=>m=((a:Z),())/\ag (c.take a)=0) ⟨bn,bn⟩ ?_ ?_
   ·rintro a _ e ⟨rfl,b⟩;have l:=k.get e;simp only[aL (show(a:Z)<al c by simp only[bf];omega),bG,e1 e,aD,GR,fO];by_cases h:c[a]=0
    ·simp only[aL h,gQ,bP];refine bu.2 ⟨by rw[bi aa],?_⟩;rw[ip e,h,b];simp
    simp only[aI h,ma,bG];refine bu.2 ⟨by show(0:Z)<=(a:Z);omega,?_⟩;rw[oC c a aa,b,mF e];have j:=e7 (k.drop (a+1));have n:0<aU a*(c[a]+4294967296*ag (c.drop (a+1))):=qw (fN a) aa;omega
   rintro _ ⟨rfl,b⟩;simp only[aI (show¬((c.length:Z)<al c) by simp only[bf];omega),bP];refine bu.2 ?_;rw[fB (bc _)] at b;exact b
  rintro(d|d) f
  ·have f:ag c=0:=f;exact bu.2 ⟨_,bn,by rw[f];simp⟩
  obtain⟨b,j⟩:0<=d.1/\ag c≠0:=f;exact bu.2 ⟨d.1,bn,λ_=>j,λ_=>b⟩
 rintro _ ⟨g,rfl,l⟩;refine bu.2 ?_;show(br (g>=0),())=_;congr 1;rw[cy];exact l
def Lf (b:X) (c:0<=a) (g:a<4294967296) (e:b<=32):eT .u32 a (2^b-1)=a %2^b:=by obtain⟨i,rfl⟩:=gh c;have f:0<2^b:=jx b;have d:(2:Z)^b-1=((2^b-1:X):Z):=(by rw[Int.natCast_sub f];simp);have h:2^b<=2^32:=tU ab e;rw[d,Ld aa aa,alW];simp
def NY {x b y:Z} {P P':Z} (e:0<b) (f:0<=x/\x<b) (h:0<P):(x+b*y) %(b*P)=0↔x=0/\y %P=0:=by
 constructor
 ·intro a;have g:x=0:=by
   have c:(x+b*y) %b=0:=(by have:=amZ (x+b*y) (show b∣b*P from⟨P,bn⟩);rw[a] at this;simpa using this.symm);rw[yr,rY f.1 f.2] at c;exact c
  subst g;rw[ajB,am1 _ _ e] at a;exact⟨bn,by rcases Int.mul_eq_zero.1 a with d|d;omega;exact d⟩
 rintro⟨rfl,a⟩;rw[ajB,am1 _ _ e,a,akj]
theorem Ml {n:X} (i:aQ c) (bx:e5 c) (dl:c.length<=10000000) (cv:n<=1000000000):zg (c,(n:Z),())=Y (eR (ag c/2^n).toNat,br (ag c %2^n≠0),()):=by
 unfold zg;dsimp only;refine bQ.1 ?_;obtain⟨a,e,a4,c1,av,a3⟩:∃a e:X,n=32*a+e/\e<32/\kc bK (n:Z) 32=some (a:Z)/\iM (n:Z) 32=some (e:Z):=by
  refine⟨n/32,n %32,aa,aa,?_,?_⟩
  ·unfold kc;rw[au ab,FO aa,ct aa aa];simp
  unfold iM;rw[au ab,FP aa];simp
 have B:=jK e;have G:=vq (p:=e) aa;have ad:(2:Z)^n=aU a*2^e:=(by rw[qu,a4,li]);have K:=e7 i;rw[av,a3,aD,aD,cO,ad];refine ae.ite (λk=>?_) λk=>?_
 ·have k:c.length<=a:=(by simp only[bf] at k;omega);have m:=g5 i;have r:=pa k;have F:aU a*1<=aU a*2^e:=jL aa (fr (fN a));rw[pj K aa,rY K aa];refine bu.2 ?_;show(([]:aif),br (al c>0),())=(eR 0,_,());rw[Hu];congr 2;rw[cy];simp only[bf];constructor
  ·intro o C;have:=e5.zero i bx C;rw[this] at o;simp at o
  intro o;have:c≠[]:=λO=>(by rw[O] at o;exact o bn);have:=yy.2 this;omega
 have k:a<c.length:=(by simp only[bf] at k;omega);have w:=i.get k;obtain⟨f,u⟩:∃f,f=ag (c.drop a):=⟨_,bn⟩;have H:0<=f:=(by rw[u];exact e7 (i.drop a));have J:ag c=ag (c.take a)+aU a*f:=(by rw[u];exact oC c a aa);have I:=e7 (i.take a);have E:=g5 (i.take a);rw[fQ,hI aa] at E;have an:ag c/(aU a*2^e)=f/2^e:=(by rw[<-tI (fr (fN a)),J,v5 _ _ (by have:=fN a;omega),pj I E,ajB]);refine ae.aK (P:=λq=>q=(br (ag c %(aU a*2^e)≠0),())) ?_ ?_
 ·rw[Fr aa,aD];have aq:al0 0 (List.take a c)=c.take a:=lP;show ae ((zo (al0 0 (List.take a c),(),())).bind _) _;rw[aq,Ud (i.take a) (by simp;omega),aD];have D:(br (ag c %(aU a*2^e)≠0))=(br (ag (c.take a)≠0)||br (c[a] %2^e≠0)):=by
   have m:=NY (x:=ag (c.take a)) (b:=aU a) (y:=f) (P:=2^e) (P':=0) (fN a) ⟨I,E⟩ B;rw[<-J] at m;have r:f %2^e=c[a] %2^e:=(by rw[u,mF k,G,j3,yr]);rw[r] at m;by_cases A:ag (c.take a)=0<;>by_cases T:c[a] %2^e=0<;>simp[A,T,m]
  rw[D];dsimp only;by_cases A:ag (c.take a)=0
  ·simp only[aI (show¬(ag (c.take a)≠0) fromλk=>k A),aiN,bG,e1 k,aD];rw[fy (x:=(e:Z)) aa aa,QQ aa aa,aD,fJ,akk];have ce:(2:Z)^e<=2147483648:=vr aa;rw[rY aa aa,k9 aa aa,Lf e w.1 w.2 aa,fO];refine bu.2 ?_;simp
  simp only[aL (show ag (c.take a)≠0 from A)];exact bu.2 bn
 rintro _ rfl;dsimp only;obtain⟨l,cs⟩:∃l,c.length=a+l:=⟨c.length-a,aa⟩;have Q:ax (al c-(a:Z))=((l:X):Z):=(by simp only[bf];rw[cL aa aa];omega);rw[Q,h6 aa,bM];have ci:f<aU l:=(by have:=g5 (i.drop a);rw[alJ,(aa:c.length-a=l),<-u] at this;exact this);refine ae.aK (P:=λq=>∃g,q=(g,())/\g.length=l/\aQ g/\ag g=f/2^e) ?_ ?_
 ·refine ae.steps l (λd bs=>∃g,bs=((d:Z),g,())/\g.length=l/\aQ g/\ag (g.take d)+aU d*(f/2^e/aU d)=f/2^e) ⟨_,bn,ac,aQ.lL _,by simp[ag,yk]⟩ ?_ ?_
  ·rintro d _ co ⟨g,rfl,aw,z,s⟩;have w:=i.get (n:=a+d) aa;have bl:=i.getD (a+d+1);have D:br ((d:Z)<al (bJ l (0:Z)))=bp:=aL (by simp only[bf,qH];omega);have aq:ax ((a:Z)+(d:Z))=((a+d:X):Z):=(by rw[cL aa aa];simp);have R:aP ((a+d:X):Z)=((a+d+1:X):Z):=bi aa;simp only[D,bG,aq,R,e1 (aa:a+d<c.length),aD];obtain⟨j,v,L,d0⟩:∃j,j=c[a+d]+4294967296*c.getD (a+d+1) 0/\0<=j/\j<18446744073709551616:=⟨_,bn,aa,aa⟩;have am:f/aU d=j+4294967296*(4294967296*ag (c.drop (a+d+2))):=by
    have m:c.drop a=(c.drop a).take d++c.drop (a+d):=by
     conv=>lhs;rw[<-kl d (c.drop a)]
     rw[qy]
    have r:f=ag ((c.drop a).take d)+aU d*ag (c.drop (a+d)):=by
     rw[u]
     conv=>lhs;rw[m]
     rw[l6,fQ,na,hI aa]
    have F:=e7 ((i.drop a).take d);have o:=g5 ((i.drop a).take d);rw[fQ,na,hI aa] at o;have C:ag (c.drop (a+d))=c[a+d]+4294967296*ag (c.drop (a+d+1)):=mF aa;have U:ag (c.drop (a+d+1))=c.getD (a+d+1) 0+4294967296*ag (c.drop (a+d+2)):=by
     rcases cQ (a+d+1) c.length with h|h
     ·rw[mT h];exact mF h
     rw[o1 h,nZ h,nZ aa];rfl
    rw[r,v5 _ _ (by have:=fN d;omega),pj F o,C,U,v];grind
   have ap:f/2^e/aU d %4294967296=j/2^e %4294967296:=(by have m:f/2^e/aU d=f/aU d/2^e:=(by rw[tI (fr B),tI (fr (fN d)),kN]);rw[m,am];have r:∀t:Z,j+4294967296*(4294967296*t)=j+2^e*(4294967296*(2^(32-e)*t)):=λt=>(by generalize(2:Z)^e=M at*;generalize(2:Z)^(32-e)=N at*;rw[show(4294967296:Z)*(4294967296*t)=(M*N)*(4294967296*t) by rw[<-G]];grind);rw[r,v5 _ _ aa,yr]);have a0:0<=j/2^e:=mb L (fr B);have c2:j/2^e<=j:=tJ _ L;refine ae.aK (P:=λq=>q=(g.set d (j/2^e %4294967296),())) ?_ ?_
   ·refine ae.aK (P:=λq=>q=(j,g,())) ?_ ?_
    ·simp only[cO];refine ae.ite (λh=>?_) λh=>?_
     ·have h:a+d+1<c.length:=(by simp only[bf] at h;omega);rw[e1 h,aD,fy (x:=c[a+d+1]) (by have:=i.get h;omega) (by have:=i.get h;omega),nT ab ab];rw[mT h] at v bl;have S:c[a+d+1]*2^(32:Z).toNat %18446744073709551616=4294967296*c[a+d+1]:=by
       rw[show(2:Z)^(32:Z).toNat=4294967296 from rfl];omega
      rw[aD,S,fy aa aa,m0 32 w.1 w.2 aa aa aa aa];refine bu.2 ?_;rw[<-v]
     have h:c.length<=a+d+1:=(by simp only[bf] at h;omega);rw[o1 h] at v;rw[fy aa aa];refine bu.2 ?_;rw[v];simp
    rintro _ rfl;dsimp only;rw[fy (x:=(e:Z)) aa aa,tu aa aa,bM,aiT,rv a0 aa,lJ aa];exact bu.2 bn
   rintro _ rfl;dsimp only;refine bu.2 ⟨g.set d (j/2^e %4294967296),by rw[bi aa],by simp[aw],z.set aa aa,?_⟩;rw[ip (by simp;omega)];simp only[am0];rw[List.take_set_of_le aa,<-ap,hV,aji 4294967296 (aU d),<-am2 (aiB (fN d))];have V:=ajA (f/2^e/aU d) 4294967296;generalize f/2^e/aU d %4294967296=q at*;generalize f/2^e/aU d/4294967296=ds at*;rw[<-V] at s;grind
  rintro _ ⟨g,rfl,aw,z,s⟩;simp only[aI (show¬((l:Z)<al (bJ l (0:Z))) by simp only[bf,qH];omega),bP];refine bu.2 ⟨g,bn,aw,z,?_⟩;have m:0<=f/2^e:=mb H (fr B);have r:f/2^e<=f:=tJ _ H;rw[pj m aa,fB aa] at s;simpa using s
 rintro _ ⟨g,rfl,aw,z,s⟩;refine ae.of_eq (ai (oA z (by show g.length<=_;omega)) rfl) ?_;show(im g,_,())=_;rw[im,s,an]
section
theorem AJ (a:cw) (b c:Z):gk a b c=gk a c b:=by grind [BitVec.or_comm,gk]
theorem FB {x y:Z} (b:0<=x/\x<4294967296) (a:0<=y/\y<4294967296):h0 .u64 x 32=Y (4294967296*x)/\gk .u64 (4294967296*x) (aM y)=4294967296*x+y:=by
 constructor
 ·grind [nT]
 rw[fy a.1 aa,AJ,m0 32 a.1 a.2 aa aa aa aa,akZ]
theorem E5 {x y:Z} (a:0<=x/\x<18446744073709551616) (c:0<y):kc .u64 x y=Y (x/y)/\iM x y=Y (x %y):=by
 constructor
 ·unfold kc;rw[au aa,FO a.1];have b:x/y<=x:=tJ _ a.1;grind [Bm,ai9]
 unfold iM;grind
theorem ac6 (l:aQ c) (J:c.length<=10000000) (g:0<a) (F:a<4294967296):Cq (c,a,())=Y (eR (ag c/a).toNat,ag c %a,()):=by
 unfold Cq;refine bQ.1 ?_;simp only[bf,h6 (aa:c.length<=4294967296),aD];refine ae.aK (P:=λt=>∃d,t=(ag c %a,d,())/\d.length=c.length/\aQ d/\ag d=ag c/a) ?_ ?_
 ·refine ae.steps c.length (λf u=>∃d,u=(ag (c.drop (c.length-f)) %a,((c.length:X):Z)-1-f,d,())/\d.length=c.length/\aQ d/\(∀b,b<c.length-f->(q:b<d.length)->d[b]=0)/\ag d=aU (c.length-f)*(ag (c.drop (c.length-f))/a)) ⟨bJ c.length 0,?_,ac,aQ.lL _,ac,?_⟩ ?_ ?_
  ·rw[cL aa aa,nZ aa];simp[ag]
  ·simp_all [pg,nZ,ag]
  ·rintro f _ G ⟨d,rfl,aw,h,i,j⟩;obtain⟨b,q⟩:∃b,c.length=b+1+f:=⟨c.length-1-f,aa⟩;have aq:((c.length:X):Z)-1-(f:Z)=(b:Z):=aa;have p:b<c.length:=aa;rw[(aa:c.length-f=b+1)] at*;have s:=l.get p;obtain⟨e,k⟩:∃e,e=ag (c.drop (b+1)):=⟨_,bn⟩;have D:0<=e:=(by rw[k];exact e7 (l.drop _));rw[<-k] at j|-;have r:0<=e %a:=nX _ aa;have H:e %a<a:=pk _ g;obtain⟨v,w⟩:=FB (x:=e %a) (y:=c[b]) ⟨r,aa⟩ s;obtain⟨z,A⟩:=E5 (x:=4294967296*(e %a)+c[b]) (y:=a) ⟨aa,aa⟩ g;have n:(4294967296*(e %a)+c[b])/a<4294967296:=by
    refine rX g ?_;omega
   have o:0<=(4294967296*(e %a)+c[b])/a:=mb aa aa;simp only[aq,aL (aa:(b:Z)>=0),bG,e1 p,v,aD];rw[w,fy (x:=a) aa aa,z,aD,k9 o n,lJ aa,A,aD];have E:=lO e a;have I:ag (c.drop b)=c[b]+4294967296*e:=(by grind [mF]);have m:ag (c.drop b)=(4294967296*(e %a)+c[b])+a*(4294967296*(e/a)):=(by grind);refine bu.2 ⟨d.set b ((4294967296*(e %a)+c[b])/a),?_,by grind,h.set o n,?_,?_⟩
   ·rw[(aa:c.length-(f+1)=b),cL aa aa,m,yr];grind
   ·grind
   rw[(aa:c.length-(f+1)=b),m,v5 _ _ aa,mG aa,i b aa aa,j,hV];grind
  rintro _ ⟨d,rfl,aw,h,i,j⟩;have aq:¬(((c.length:X):Z)-1-(c.length:Z)>=0):=aa;simp_all [yk,bu,oJ,aI,bP]
 rintro _ ⟨d,rfl,aw,h,i⟩;have C:ag c %a<a:=pk _ g;have B:0<=ag c %a:=nX _ aa;refine ae.of_eq (ai (oA h (by grind)) rfl) ?_;show(im d,dd (ag c %a),())=_;grind [k9,im]
section
variable {α B:Type}
theorem qS {c a e:bm α} (f:b<a.length) (d:α->bv B):a9 (c++(a++e)) (c.length+b) d=d a[b]:=by simp_all [pu,r5,qC,ba,gj]
def Bb {a c d:bm α} (f:b<c.length) (e:α):(a++(c++d)).set (a.length+b) e=a++(c.set b e++d):=by rw[ak3 _ _ aa,r5,List.set_append_left _ _ f]
end
theorem UV {v1 fv e f b c g:Z} (s:0<d) (r:e=(v1*4294967296+fv)*d+o) (p:f=(b*4294967296+c)*d+g) (j:0<=o) (q:g<d) (h:0<=a) (k:(b-a*v1)*4294967296+c<a*fv):f<a*e:=by have i:b*4294967296+c+1<=a*(v1*4294967296+fv):=(by grind);have l:(b*4294967296+c+1)*d<=a*(v1*4294967296+fv)*d:=m7 i aa;have m:0<=a*o:=m8 h j;have n:a*e=a*(v1*4294967296+fv)*d+a*o:=(by grind);grind
theorem UW {v1 fv b f c e g:Z} (u:0<d) (s:b=(v1*4294967296+fv)*d+o) (q:f=(c*4294967296+e)*d+g) (t:0<=o/\o<d) (r:0<=g) (h:0<=a/\a<4294967296) (v:1<=v1) (w:0<=fv) (j:a*fv<=(c-a*v1)*4294967296+e):a*b<f+b:=by have i:a*(v1*4294967296+fv)<=c*4294967296+e:=(by grind);have k:a*(v1*4294967296+fv)*d<=(c*4294967296+e)*d:=m7 i aa;have l:a*o<=a*d:=jL aa h.1;have m:a*b=a*(v1*4294967296+fv)*d+a*o:=(by grind);have n:a*d<=4294967295*d:=m7 aa aa;have p:4294967296*d<=(v1*4294967296+fv)*d:=m7 aa aa;omega
end
theorem FH (a:c.length=b+2):ag c=(c[b+1]*4294967296+c[b])*aU b+ag (c.take b):=by grind [ip,hV,ch]
theorem aei (a:c.length=b+3):ag c=((c[b+2]*4294967296+c[b+1])*4294967296+c[b])*aU b+ag (c.take b):=by grind [hV,ip,ch]
structure ym (v w:aif) (n:X):Prop where
 hv:aQ v
 hw:aQ w
 FJ:v.length=n+2
 wn:w.length=n+3
 Oy:n<=10000000
 top:2147483648<=v[n+1]
 lt:ag w<4294967296*ag v
theorem ym.RC {n:X} (a:ym c f n):0<ag c:=by
 have b:=FH a.FJ;have d:=e7 (a.hv.take n);have e:=a.hv.get (n:=n) (by grind);have g:=a.top;have h:0<(c[n+1]'(by grind)*4294967296+c[n]'(by grind))*aU n:=qw aa (fN n)
 omega
theorem UX {g j:aif} {n:X} (h:ym f c n) (r:a=(4294967296*c[n+2]'(by have:=h.wn;omega)+c[n+1]'(by have:=h.wn;omega))/f[n+1]'(by have:=h.FJ;omega)) (ci:d=(4294967296*c[n+2]'(by grind)+c[n+1]'(by grind)) %f[n+1]'(by grind)):ae (loop (σ:=(ep×Z×Z×be×bt)) (ρ:=(ep×Z×be×bt)) (λ(l,o,B,t,_)=>
 bB (α:=(ep×be×bt)⊕((ep×Z×Z×be×bt)⊕(ep×Z×be×bt))) (bif br (o>4294967295)==bq then(ao f (ax (al f-2))).bind λd2=>
 (h0 bE B 32).bind λd3=>
 (bj (l.2-l.1) (ax (al f-2))).bind λdl=>
 (a9 t (l.1+dl) λam=>Y am).bind λd4=>
  bif br (aM (o*aM d2)>gk bE d3 (aM d4)) then
 Y (.inl (l,t,())) else
 Y (.inr (.inr (l,o,t,()))) else Y (.inl (l,t,()))) λb=>match b with
 |.inl (O,P,_)=>(
 (ao f (ax (al f-1))).bind λp=>
  bif br (aM (B+aM p)>4294967295) then
 Y (.inr (O,aM (o-1),P,())) else
 Y (.inl (O,aM (o-1),aM (B+aM p),P,())))
 |.inr i=>Y i) ((g.length,g.length+c.length),a,d,g++(c++j),())) (λi=>∃b,i=((g.length,g.length+c.length),b,g++(c++j),())/\0<=b/\b<4294967296/\ag c/ag f<=b/\b*ag f<ag c+ag f):=by
 have c1:=h.FJ;have c2:=h.wn;have fp:=h.Oy;have bl:=h.RC;have f7:=h.hv.get (n:=n+1) aa;have s:=h.hv.get (n:=n) aa;have f0:=h.hw.get (n:=n+2) aa;have f1:=h.hw.get (n:=n+1) aa;have cv:=h.hw.get (n:=n) aa;have fT:=h.top;have K:=FH c1;have w:=aei c2;have E:=e7 (h.hv.take n);have F:=g5 (h.hv.take n);have R:=e7 (h.hw.take n);have G:=g5 (h.hw.take n);rw[fQ,hI aa] at F G;have bx:=h.lt;have z:=fN n;have aq:ax (al f-1)=((n+1:X):Z):=(by grind [cL,bf]);have ad:ax (al f-2)=((n:X):Z):=(by grind [cL,bf]);have ap:ao f ((n+1:X):Z)=Y f[n+1]:=e1 aa;have av:ao f ((n:X):Z)=Y f[n]:=e1 aa;have a0:∀q:Z->ah9,a9 (g++(c++j)) (g.length+n) q=q c[n]:=λq=>qS aa q;generalize f2:f[n+1]=v1 at*;generalize f3:f[n]=fv at*;generalize f4:c[n+2]=D at*;generalize f5:c[n+1]=d1 at*;generalize f6:c[n]=k at*;obtain⟨e,co⟩:∃e,e=4294967296*D+d1:=⟨_,bn⟩;rw[<-co] at r ci;have w:ag c=(e*4294967296+k)*aU n+ag (c.take n):=(by grind);have ex:D<=v1:=by
  rcases iX v1 D with m|m
  ·exfalso;have S:(v1*4294967296+fv+1)*aU n<=(v1*4294967296+4294967296)*aU n:=m7 aa aa;have H:((v1+1)*4294967296*4294967296)*aU n<=(e*4294967296+k)*aU n:=m7 aa aa;grind
  omega
 have el:0<=ag c/ag f:=mb (e7 h.hw) aa;have em:ag c/ag f<4294967296:=rX bl bx;have cs:0<=e:=aa;have eq:=lO e v1;have ft:0<=e %v1:=nX _ aa;have fz:e %v1<v1:=pk _ aa;have fs:0<=e/v1:=mb cs aa;have T:∀b,0<=b->(e-b*v1)*4294967296+k<b*fv->ag c/ag f<b:=λb r h=>(by have:=UV z K w E G r h;simp_all [rX]);have an:∀b,0<=b->b<4294967296->b*fv<=(e-b*v1)*4294967296+k->b*ag f<ag c+ag f:=λb a3 a4 h=>UW z K w ⟨E,F⟩ R ⟨a3,a4⟩ aa s.1 h;refine aiA (λC=>∃b i,C=((g.length,g.length+c.length),b,i,g++(c++j),())/\0<=b/\b<=4294967297/\0<=i/\i<4294967296/\i=e-b*v1/\ag c/ag f<=b) (λC=>C.2.1.toNat) ⟨a,d,bn,aa,?_,aa,aa,?_,?_⟩ ?_
 ·rw[r];have:e<4294967298*v1:=aa;have:=rX aa this;omega
 ·grind
 ·rcases iX (e/v1) (ag c/ag f) with m|m
  ·exfalso;have S:(e/v1+1)*ag f<=ag c:=by
    have v:(e/v1+1)*ag f<=ag c/ag f*ag f:=m7 aa aa;have U:=lO (ag c) (ag f);have I:=nX (ag c) (aa:ag f≠0);grind
   have H:(e+1)*4294967296<=(e/v1+1)*(v1*4294967296):=(by grind);have d5:(e+1)*4294967296*aU n<=(e/v1+1)*(v1*4294967296)*aU n:=m7 H aa;have d6:0<=(e/v1+1)*(fv*aU n+ag (f.take n)):=m8 aa (by have:=m8 s.1 (fr z);omega);have d7:(e/v1+1)*ag f=(e/v1+1)*(v1*4294967296)*aU n+(e/v1+1)*(fv*aU n+ag (f.take n)):=(by grind);have d8:(k+1)*aU n<=4294967296*aU n:=m7 aa aa;grind
  omega
 rintro _ ⟨b,i,rfl,v,U,I,V,d9,ek⟩;have ce:∀b,(b-1)*v1=b*v1-v1:=λb=>(by grind);have J:ag c/ag f<b->ae ((ao f (ax (al f-1))).bind λp=>
  bif br (aM (i+aM p)>4294967295) then
 Y (.inr ((g.length,g.length+c.length),aM (b-1),g++(c++j),())) else
 Y (
  .inl ((g.length,g.length+c.length),aM (b-1),aM (i+aM p),g++(c++j),()))) (λ(Q:(ep×Z×Z×be×bt)⊕(ep×Z×be×bt))=>match Q with
  |.inl N=>(∃b i,N=((g.length,g.length+c.length),b,i,g++(c++j),())/\0<=b/\b<=4294967297/\0<=i/\i<4294967296/\i=e-b*v1/\ag c/ag f<=b)/\N.2.1.toNat<b.toNat
  |.inr i=>∃b,i=((g.length,g.length+c.length),b,g++(c++j),())/\0<=b/\b<4294967296/\ag c/ag f<=b/\b*ag f<ag c+ag f):=by
  intro fl;rw[aq,ap,aD,fy (x:=v1) aa aa,fy (x:=i+v1) aa aa,fy (x:=b-1) aa aa,cO];refine ae.ite (λm=>?_) λm=>?_
  ·refine bu.2 ⟨b-1,bn,aa,?_,aa,?_⟩
   ·grind
   have bs:b-1<4294967296:=(by grind);refine an (b-1) aa bs ?_;rw[ce];have f8:(b-1)*fv<=4294967295*fv:=m7 aa s.1;omega
  refine bu.2 ⟨⟨b-1,i+v1,bn,aa,aa,aa,aa,?_,aa⟩,?_⟩
  ·grind
  show(b-1).toNat<b.toNat;omega
 by_cases L:b>4294967295
 ·simp only[aL L,show(bp==bq)=bq from rfl,bP,aD];refine(J aa).mono ?_;rintro(u|u) A
  ·exact A
  omega
 simp only[aI L,aiN,bG,ad,av,aD];obtain⟨ds,d0⟩:=FB (x:=i) (y:=k) ⟨I,V⟩ cv;have fn:=Au (x:=b) (y:=fv) ⟨v,aa⟩ s;rw[ds,aD];simp only[r5,eU (aa:n<c.length),aD,a0,d0];rw[fy (x:=fv) aa aa,fy (x:=b*fv) aa aa];by_cases M:b*fv>4294967296*i+k
 ·simp only[aL M,bG,aD];refine(J (T b v aa)).mono ?_;rintro(u|u) A
  ·exact A
  omega
 simp only[aI M,bP,aD];grind [bu]
theorem ady {i s:aif} (L:aQ c) (M:aQ f) (a4:c.length<f.length) (ap:f.length<=100000000) (K:0<=a/\a<4294967296) (av:∀g e b,b.length=f.length->aQ b->(∀(D:c.length<b.length) (m:c.length<f.length),b[c.length]=f[c.length])->0<=g->g<4294967296->0<=e->e<=1->ag b-aU c.length*(g+e)=ag f-a*ag c->q ((i.length,i.length+f.length),g,e,i++(b++s),())):ae (loop (σ:=(ep×Z×Z×Z×be×bt)) (ρ:=(ep×Z×Z×be×bt)) (λ(j,p,t,o,r,_)=>
 bif br (o<al c) then
 (ao c o).bind λv=>
 (eJ bE (aM (aM (a*aM v)+p)) 32).bind λU=>
 (bj (j.2-j.1) o).bind λP=>
 (a9 r (j.1+P) λC=>Y C).bind λA=>
 (bj (j.2-j.1) o).bind λz=>
 (a9 r (j.1+z) λ_=>Y (r.set (j.1+z) (dd (eT bE (aM (aM (aM A-eT bE (aM (aM (a*aM v)+p)) 4294967295)-t)) 4294967295)))).bind λad=>
 (eJ bE (aM (aM (aM A-eT bE (aM (aM (a*aM v)+p)) 4294967295)-t)) 32).bind λV=>
 Y (.inl (j,U,eT bE V 1,aP o,ad,())) else
 Y (.inr (j,p,t,r,()))) ((i.length,i.length+f.length),0,0,0,i++(f++s),())) q:=by
 refine ae.steps c.length (λd T=>∃g e b,T=((i.length,i.length+f.length),g,e,(d:Z),i++(b++s),())/\b.length=f.length/\aQ b/\(∀l,d<=l->(D:l<b.length)->(m:l<f.length)->b[l]=f[l])/\0<=g/\g<4294967296/\0<=e/\e<=1/\ag b-aU d*(g+e)=ag f-a*ag (c.take d)) ⟨0,0,f,bn,bn,M,λ_ _ _ _=>rfl,aa,aa,aa,aa,by simp[ag]⟩ ?_ ?_
 ·rintro d _ u ⟨g,e,b,rfl,w,m,y,E,F,G,H,I⟩;have N:=L.get u;have bl:=m.get (n:=d) aa;have a3:=Au K N;obtain⟨k,J,Q,R⟩:∃k,k=a*c[d]+g/\0<=k/\k<18446744073709551616:=⟨_,bn,aa,aa⟩;simp only[aL (show(d:Z)<al c by grind),bG,e1 u,aD];have aq:aM (aM (a*aM c[d])+g)=k:=by
   rw[fy (x:=c[d]) aa aa,fy (x:=a*c[d]) aa aa,<-J,fy Q R]
  rw[aq];obtain⟨h,a0,am,an⟩:∃h,h=b[d]-k %4294967296-e/\-4294967296<=h/\h<4294967296:=⟨_,bn,aa,aa⟩;have B:aM (aM (aM b[d]-eT bE k 4294967295)-e)=h %18446744073709551616:=(by simp_all [and_low32,rR]);have aw:h %18446744073709551616/4294967296 %2^1=-(h/4294967296):=aa;have S:h %18446744073709551616 %4294967296=h %4294967296:=aa;simp only[m3,r5,eU (aa:d<f.length),aD,qS (aa:d<b.length),B,rv (aa:0<=h %18446744073709551616) aa,Bb (aa:d<b.length)];rw[se 1 aa aa 1 ab ab,aw,S];refine bu.2 ⟨k/4294967296,-(h/4294967296),b.set d (h %4294967296),by rw[bi aa],by simp[w],m.set aa aa,?_,aa,aa,aa,aa,?_⟩
  ·intro l bs bx O;rw[yx aa];exact y l aa aa O
  rw[mG aa,hV,ip u];grind
 rintro _ ⟨g,e,b,rfl,w,m,y,E,F,G,H,I⟩;simp_all [bu,bc,fB,aI,bf,bP,al]
theorem SW {e m:aif} (C:aQ f) (D:aQ c) (L:f.length<c.length) (J:c.length<=100000000) (K:∀d a,a.length=c.length->aQ a->(∀(w:f.length<a.length) (i:f.length<c.length),a[f.length]=c[f.length])->0<=d->d<=1->ag a+aU f.length*d=ag c+ag f->t ((e.length,e.length+c.length),d,e++(a++m),())):ae (loop (σ:=(ep×Z×Z×be×bt)) (ρ:=(ep×Z×be×bt)) (λ(g,o,k,l,_)=>
 bif br (k<al f) then
 (ao f k).bind λr=>
 (bj (g.2-g.1) k).bind λE=>
 (a9 l (g.1+E) λv=>Y v).bind λs=>
 (bj (g.2-g.1) k).bind λq=>
 (a9 l (g.1+q) λ_=>Y (l.set (g.1+q) (dd (eT bE (aM (aM (aM s+aM r)+o)) 4294967295)))).bind λI=>
 (eJ bE (aM (aM (aM s+aM r)+o)) 32).bind λH=>
 Y (.inl (g,H,aP k,I,())) else
 Y (.inr (g,o,l,()))) ((e.length,e.length+c.length),0,0,e++(c++m),())) t:=by
 refine ae.steps f.length (λb F=>∃d a,F=((e.length,e.length+c.length),d,(b:Z),e++(a++m),())/\a.length=c.length/\aQ a/\(∀j,b<=j->(w:j<a.length)->(i:j<c.length)->a[j]=c[j])/\0<=d/\d<=1/\ag a+aU b*d=ag c+ag (f.take b)) ⟨0,c,bn,bn,D,λ_ _ _ _=>rfl,aa,aa,by simp[ag]⟩ ?_ ?_
 ·rintro b _ p ⟨d,a,rfl,x,i,y,z,A,B⟩;have N:=C.get p;have O:=i.get (n:=b) aa;obtain⟨h,M,G,P⟩:∃h,h=a[b]+f[b]+d/\0<=h/\h<8589934592:=⟨_,bn,aa,aa⟩;simp only[aL (show(b:Z)<al f by grind),bG,e1 p,aD];have u:aM (aM (aM a[b]+aM f[b])+d)=h:=by
   grind [fy]
  simp only[m3,r5,eU (aa:b<c.length),aD,qS (aa:b<a.length),u,rv G (aa:h<18446744073709551616),Bb (aa:b<a.length)];refine bu.2 ⟨h/4294967296,a.set b (h %4294967296),by rw[bi aa],by grind,i.set aa aa,?_,aa,aa,?_⟩
  ·grind
  grind [mG,hV,ip,ajA]
 rintro _ ⟨d,a,rfl,x,i,y,z,A,B⟩;simp_all [bu,bc,fB,aI,bf,bP,al]
theorem Um {b e g c h f:Z} (j:b+a*e=o+d) (i:o=c-g*d-a*(4294967296*-1)):b+a*(h+e-4294967296*f-h)=c-(g-1)*d+a*(4294967296*(1-f)):=by grind
theorem Un {e c g b h f:Z} (i:d-a*(e+c)=o-g*b):d+a*(h-e-c-4294967296*f-h)=o-g*b-a*(4294967296*f):=by grind
theorem ae.bs {c:bv h} {b:h->bv n} {a:n->Prop} {y:h} (d:c=Y y) (e:ae (b y) a):ae (c.bind b) a:=by grind
theorem Uo {A C:aif} {n:X} (i:ym c f n):ae (zf ((A++(f++C),A.length,A.length+f.length),c,())) (λq=>∃b,q=(A++(b++C),ag f/ag c,())/\b.length=f.length/\aQ b/\ag b=ag f %ag c):=by
 have H:=i.FJ;have ds:=i.wn;have fl:=i.Oy;have k:=i.RC;have a4:=e7 i.hw;have fp:=i.top;have Q:=i.hv.get (n:=n+1) aa;have O:=i.hw.get (n:=n+2) aa;have c2:=i.hw.get (n:=n+1) aa;have D:al c=((n+2:X):Z):=(by simp only[bf];omega);have aq:ax (((n+2:X):Z)-1)=((n+1:X):Z):=(by rw[cL aa aa];omega);have a0:ao c ((n+1:X):Z)=Y c[n+1]:=e1 aa;obtain⟨d0,ap⟩:=FB (x:=f[n+2]) (y:=f[n+1]) O c2;obtain⟨d1,d2⟩:=E5 (x:=4294967296*f[n+2]+f[n+1]) (y:=c[n+1]) ⟨aa,aa⟩ aa;unfold zf;have m:bj (A.length+f.length-A.length) (al c)=Y (n+2):=(by rw[r5,D];exact eU aa);have i1:bj (A.length+f.length-A.length) (ax (al c-1))=Y (n+1):=(by rw[r5,D,aq];exact eU aa);have R:ao c (ax (al c-1))=Y c[n+1]:=(by rw[D,aq];exact a0);refine ae.bs m (ae.bs (qS aa _) (ae.bs (by rw[fy O.1 aa];exact d0) (ae.bs i1 (ae.bs (qS aa _) (ae.bs R (ae.bs (by rw[ap,fy Q.1 aa];exact d1) (ae.bs R (ae.bs (by rw[ap,fy Q.1 aa];exact d2) ?_))))))));refine ae.aK (UX i bn rfl) ?_;rintro _ ⟨g,rfl,an,aw,fT,f0⟩;refine ae.aK (P:=λq=>∃e j b,q=((A.length,A.length+f.length),e,j,A++(b++C),())/\b.length=f.length/\aQ b/\0<=e/\e<4294967296/\0<=j/\j<=1/\(∀(i:c.length<b.length) (L:c.length<f.length),b[c.length]=f[c.length])/\ag b-aU c.length*(e+j)=ag f-g*ag c) (ady i.hv i.hw aa aa ⟨an,aw⟩ λe j b p v T U V ad am w=>⟨e,j,b,bn,p,v,U,V,ad,am,T,w⟩) ?_;rintro _ ⟨e,j,b,rfl,p,v,U,V,ad,am,T,w⟩;have fs:=v.get (n:=n+2) aa;obtain⟨d,bl,d5,d6⟩:∃d,d=b[n+2]-e-j/\-4294967296<=d/\d<4294967296:=⟨_,bn,aa,aa⟩;have K:aM (aM (aM b[n+2]-e)-j)=d %18446744073709551616:=(by rw[rR,rR,rR,bl];omega);have d3:d %18446744073709551616/4294967296 %2^1=-(d/4294967296):=(by rw[show(2:Z)^1=2 from rfl];omega);have d4:d %18446744073709551616 %4294967296=d %4294967296:=aa;refine ae.bs m (ae.bs (qS aa _) (ae.bs m (ae.bs (y:=A++(b.set (n+2) (d %4294967296)++C)) ?_ (ae.bs (y:=d %18446744073709551616/4294967296) ?_ ?_))))
 ·rw[qS aa,K,rv aa aa,Bb aa,d4]
 ·rw[K,m3]
 rw[se 1 aa aa 1 ab ab,d3];have ek:=fN (n+2);have cv:ag (b.set (n+2) (d %4294967296))=ag b+aU (n+2)*(d %4294967296-b[n+2]):=mG aa _;have r:aQ (b.set (n+2) (d %4294967296)):=v.set aa aa;rw[H] at w;have d7:=lO d 4294967296;have s:ag (b.set (n+2) (d %4294967296))=ag f-g*ag c-aU (n+2)*(4294967296*(d/4294967296)):=(by rw[cv];generalize d/4294967296=z at*;generalize d %4294967296=B at*;have:B=b[n+2]-e-j-4294967296*z:=aa;rw[this];exact Un w);have ci:=g5 r;have el:=e7 r;rw[akl,p,ds,(aa:n+3=(n+2)+1),hV] at ci;have M:=lO (ag f) (ag c);have eq:=nX (ag f) (aa:ag c≠0);have ex:=pk (ag f) k;rw[gK,cO];refine ae.ite (λav=>?_) λav=>?_
 ·have F:d/4294967296=0:=aa;rw[F] at s;have l:ag f/ag c=g:=by
   have E:g*ag c<=ag f:=aa;have L:g<=ag f/ag c:=(ak4 k).2 E;omega
  rw[aY (by simp;omega),k9 an aw];refine bu.2 ⟨_,by rw[l],by simp[p],r,?_⟩;rw[s];rw[l] at M;rw[kN g];omega
 have F:d/4294967296=-1:=aa;rw[F] at s;have l:ag f/ag c=g-1:=(by have E:ag f<g*ag c:=aa;have L:ag f/ag c<g:=rX k E;have d8:(g-1)*ag c<ag f+1:=(by have:(g-1)*ag c=g*ag c-ag c:=(by grind);omega);have d9:g-1<=ag f/ag c:=(ak4 k).2 aa;omega);have fn:=mb a4 (fr k);have G:(b.set (n+2) (d %4294967296)).length=f.length:=(by simp[p]);rw[<-G];refine ae.aK (P:=λq=>∃e a,q=((A.length,A.length+(b.set (n+2) (d %4294967296)).length),e,A++(a++C),())/\a.length=f.length/\aQ a/\0<=e/\e<=1/\ag a+aU c.length*e=ag (b.set (n+2) (d %4294967296))+ag c) (SW i.hv r aa aa λe a I o fz J S u=>⟨e,a,bn,by rw[I,G],o,J,S,u⟩) ?_;rintro _ ⟨h,a,rfl,I,o,J,S,u⟩;rw[G];have ft:=o.get (n:=n+2) aa;refine ae.bs m (ae.bs (qS aa _) (ae.bs m (ae.bs (y:=A++(a.set (n+2) ((a[n+2]+h) %4294967296)++C)) ?_ ?_)))
 ·rw[qS aa,Bb aa,k9 J aa,ph]
 rw[aY (by simp;omega),fy aa aa,k9 aa aa];refine bu.2 ⟨a.set (n+2) ((a[n+2]+h) %4294967296),by rw[l],by simp[I],o.set aa aa,?_⟩;have c1:ag (a.set (n+2) ((a[n+2]+h) %4294967296))=ag a+aU (n+2)*((a[n+2]+h) %4294967296-a[n+2]):=mG aa _;have N:aQ (a.set (n+2) ((a[n+2]+h) %4294967296)):=o.set aa aa;have co:=g5 N;have em:=e7 N;have ce:(a.set (n+2) ((a[n+2]+h) %4294967296)).length=(n+2)+1:=(by rw[akl];omega);rw[ce,hV] at co;have f2:=lO (a[n+2]+h) 4294967296;rw[H] at u;have t:ag (a.set (n+2) ((a[n+2]+h) %4294967296))=ag f-(g-1)*ag c+aU (n+2)*(4294967296*(1-(a[n+2]+h)/4294967296)):=(by rw[c1];generalize(a[n+2]+h)/4294967296=z at*;generalize(a[n+2]+h) %4294967296=B at*;have:B=a[n+2]+h-4294967296*z:=aa;rw[this];exact Um u s);rw[l] at M;have bx:ag f-(g-1)*ag c=ag f %ag c:=(by rw[kN (g-1)];omega);rw[bx] at t;have dl:=g5 i.hv;rw[H] at dl;have cs:(a[n+2]+h)/4294967296=1:=by
  rcases iX 0 ((a[n+2]+h)/4294967296) with a3|a3
  ·omega
  exfalso;have:(a[n+2]+h)/4294967296=0:=aa;rw[this] at t;omega
 rw[cs] at t;rw[t];simp
theorem uU (b:0<=a):ag (eR a.toNat)=a:=by grind [sL]
def X2 {n:X} (f:aQ c) (m:e5 c) (u:c.length=n+2):∃d:X,d<=31/\uz (c[n+1],())=Y ((d:Z),())/\ag c*2^d<aU (n+2)/\2147483648*aU (n+1)<=ag c*2^d:=by
 have l:=f.get (n:=n+1) aa;have q:c[n+1]≠0:=m _ (by rw[amW,ba aa];congr 2;omega);have h:ag c=ag (c.take (n+1))+aU (n+1)*c[n+1]:=(by rw[<-ip aa,fB aa]);have r:=e7 (f.take (n+1));have j:=g5 (f.take (n+1));rw[fQ,hI aa] at j;generalize c[n+1]=v at*;obtain⟨a,rfl⟩:=gh l.1;have i:0<a:=aa;have t:aN a<=32:=fU.2 aa;have s:=pP i;obtain⟨g,o⟩:=wA i;obtain⟨b,k⟩:∃b,aN a=b+1:=⟨aN a-1,aa⟩;refine⟨32-aN a,aa,?_,?_,?_⟩
 ·unfold uz;refine ai (Im (n:=a) aa) ?_;show Y (ax (32-(aN a:Z)),())=_;rw[cL aa aa];congr 2;omega
 ·have aq:ag c<aU (n+1)*2^aN a:=by
   have:aU (n+1)*((a:Z)+1)<=aU (n+1)*2^aN a:=jL (by rw[<-xY];omega) (fr (fN _));have p:aU (n+1)*((a:Z)+1)=aU (n+1)*(a:Z)+aU (n+1):=(by rw[am3,am4]);show ag c<_;rw[h];show ag (c.take (n+1))+aU (n+1)*(a:Z)<_;omega
  have e:ag c*2^(32-aN a)<aU (n+1)*2^aN a*2^(32-aN a):=rZ aq (jK _);rw[j3,<-li,(aa:aN a+(32-aN a)=32)] at e;rw[hV,kN];rw[kN];have:aU (n+1)*2^32=4294967296*aU (n+1):=(by rw[kN];rfl);omega
 have aq:aU (n+1)*2^b<=ag c:=(by have:aU (n+1)*2^b<=aU (n+1)*(a:Z):=jL (by rw[<-xY];rw[k] at g;simp only[am5] at g;omega) (fr (fN _));rw[h];show _<=ag (c.take (n+1))+aU (n+1)*(a:Z);omega);have e:aU (n+1)*2^b*2^(32-aN a)<=ag c*2^(32-aN a):=m7 aq (fr (jK _));rw[j3,<-li,(aa:b+(32-aN a)=31)] at e;have:aU (n+1)*2^31=2147483648*aU (n+1):=(by rw[kN];rfl);omega
def Uq (g:ag c=a) (e:aQ c) (l:e5 c) (q:a<aU (b+2)) (r:2147483648*aU (b+1)<=a):∃d:c.length=b+2,2147483648<=c[b+1]:=by
 have t:=fN (b+1);have k:c.length=b+2:=by
  have o:=g5 e;have h:c≠[]:=λi=>(by rw[i] at g;simp only[ag] at g;omega);have p:=e5.low e l h;rcases r6 c.length (b+2) with d|d|d
  ·have:=pa (m:=c.length) (n:=b+1) aa;omega
  ·exact d
  have:=pa (m:=b+2) (n:=c.length-1) aa;omega
 refine⟨k,?_⟩;have s:ag c=ag (c.take (b+1))+aU (b+1)*c[b+1]:=(by rw[<-ip aa,fB aa]);have j:=g5 (e.take (b+1));rw[fQ,hI aa] at j;rcases iX c[b+1] 2147483648 with f|f
 ·exfalso;have:aU (b+1)*(c[b+1]+1)<=aU (b+1)*2147483648:=jL aa aa;rw[am3,am4] at this;omega
 exact f
theorem Mj {g c h f e b:Z} (k:(f+a*(h+b))+d*c=g) (i:h=d*o+e):(f+a*(e+b))+d*(c+a*(o-0))=g:=by subst i;have aq:a*(d*o+e+b)=a*(e+b)+a*(d*o):=(by grind);have j:d*(c+a*(o-0))=d*c+a*(d*o):=(by grind);omega
def Up {n:X} (z:aQ c) (J:ag c=a) (d6:a<aU (n+2)) (L:c.length=n+2) (a3:2147483648<=c[n+1]) (co:n<=10000000) (a4:aQ f) (am:ag f=d) (V:f.length=e) (em:e=b+(n+2)) (d5:e<=10000000) (ap:ag (f.drop b)<a) {H:jQ->Prop} (ad:∀i h,i.length=b->aQ i->h.length=e->aQ h->ag h+a*ag i=d->ag h<a->H (i,h,())):ae (loop (σ:=(Z×be×be×bt)) (ρ:=jQ) (λ(r,P,u,_)=>
 bif br (r>=0) then
 ((gu r).bind λM=>(gu (aP (ax (r+al c)))).bind λN=>(g9 M N u.length).bind λ_=>(nL u.length).map λ_=>(M,N)).bind λt=>
  bif ca t.1 t.2 then
 (zf ((u,t.1,t.2),c,())).bind λ(ci,cs,_)=>
 wr P r cs λds=>
 Y (.inl (ax (r-1),ds,ci,())) else bo else
 Y (.inr (P,u,()))) (ax (al (bJ b (0:Z))-1),bJ b (0:Z),f,())) H:=by
 have K:0<a:=(by have o:=FH L;have q:=e7 (z.take n);have d1:=z.get (n:=n) aa;have d2:0<(c[n+1]*4294967296+c[n])*aU n:=qw aa (fN n);omega);refine ae.steps b (λl cv=>∃i h,cv=(((b:X):Z)-1-l,i,h,())/\i.length=b/\aQ i/\(∀g,g<b-l->(an:g<i.length)->i[g]=0)/\h.length=e/\aQ h/\ag h+a*ag i=d/\ag (h.drop (b-l))<a) ⟨bJ b 0,f,?_,ac,aQ.lL _,ac,V,a4,by rw[pg,am];omega,ap⟩ ?_ ?_
 ·rw[show ax (al (bJ b (0:Z))-1)=(b:Z)-1-((0:X):Z) from ?_];simp only[bf,qH];rw[cL aa aa];omega
 ·rintro l _ ek ⟨i,h,rfl,aw,E,F,G,p,o,q⟩;obtain⟨g,an⟩:∃g,b=g+1+l:=⟨b-1-l,aa⟩;have aq:((b:X):Z)-1-(l:Z)=(g:Z):=aa;rw[(aa:b-l=g+1)] at q;have R:aP (ax ((g:Z)+al c))=((g+(n+3):X):Z):=by
   simp only[bf];rw[cL aa aa,(aa:(g:Z)+(c.length:Z)=((g+(n+2):X):Z)),bi aa];rfl
  simp only[aq,aL (aa:(g:Z)>=0),bG,R,vh,aD,p8 (aa:g<=g+(n+3)/\g+(n+3)<=h.length),Jt (aa:0<h.length),ja,show ca g (g+(n+3))=bp from by simp];obtain⟨m,v⟩:∃m,m=h.take g:=⟨_,bn⟩;obtain⟨j,B⟩:∃j,j=(h.drop g).take (n+3):=⟨_,bn⟩;obtain⟨k,x⟩:∃k,k=h.drop (g+(n+3)):=⟨_,bn⟩;have w:m.length=g:=(by rw[v,fQ];omega);have s:j.length=n+3:=(by rw[B,fQ,na];omega);have y:h=m++(j++k):=(by rw[v,B,x,<-qy,kl,kl]);have d3:k.length=e-(g+(n+3)):=(by rw[x,na,G]);have ce:aQ m:=(by rw[v];exact p.take g);have D:aQ j:=(by rw[B];exact(p.drop g).take _);have O:aQ k:=(by rw[x];exact p.drop _);have d7:ag (h.drop g)=ag j+aU (n+3)*ag k:=(by rw[y,r1 aa,qz aa,ir,l6,s]);have d8:ag (h.drop g)=h[g]+4294967296*ag (h.drop (g+1)):=mF aa;have ex:=p.get (n:=g) aa;have T:=e7 O;have d4:0<=aU (n+3)*ag k:=m8 (fr (fN _)) T;have el:ag (h.drop g)<4294967296*a:=aa;have U:ag k=0:=by
   rcases iX 0 (ag k) with S|S
   ·exfalso;have:=jL (aa:1<=ag k) (fr (fN (n+3)));have d0:aU (n+3)=4294967296*aU (n+2):=hV (n+2);have:=e7 D;omega
   omega
  have Q:ym c j n:=⟨z,D,L,s,co,a3,by rw[J];omega⟩;have av:0<=ag j/a:=ai9 (e7 D) aa;have a0:ag j/a<4294967296:=am6 K aa;have d9:=ajA (ag j) a;have eq:=akm (ag j) K;have I:=Uo (A:=m) (C:=k) Q;rw[<-y,w,s,J] at I;refine ae.aK I ?_;rintro _ ⟨c1,rfl,c2,dl,dd⟩;dsimp only;rw[lJ aa];refine bu.2 ⟨i.set g (ag j/a),m++(c1++k),?_,by simp[aw],E.set av a0,?_,by simp;omega,aQ.append.2 ⟨ce,aQ.append.2 ⟨dl,O⟩⟩,?_,?_⟩
  ·rw[cL aa aa];congr 1;omega
  ·intro bs fl bx;rw[yx aa];exact F bs aa (by simpa using bx)
  ·rw[mG aa,F g aa aa,l6,l6,w,dd];rw[y,l6,l6,w] at o;rw[c2];rw[s] at o;have bl:ag j=a*(ag j/a)+ag j %a:=aa;exact Mj o bl
  rw[(aa:b-(l+1)=g),r1 aa,qz aa,ir,l6,U,dd];omega
 rintro _ ⟨i,h,rfl,aw,E,F,G,p,o,q⟩;have aq:¬(((b:X):Z)-1-(b:Z)>=0):=aa;simp only[aI aq,bP];rw[oJ,lP] at q;exact bu.2 (ad i h aw E G p o q)
def E6 {A B q r:Z} (f:0<B) (b:A=B*q+r) (c:0<=r) (d:r<B):A/B=q/\A %B=r:=by have e:=lO A B;have a:A/B=q:=(by rw[b,Int.mul_add_ediv_left _ _ aa,pj c d];omega);refine⟨a,?_⟩;rw[a] at e;omega
theorem Ur (l:aQ c) (p:aQ f) (V:e5 c) (F:e5 f) (fn:c.length<=1000000) (fp:f.length<=1000000) (N:f≠[]):Cp (c,f,())=Y (eR (ag c/ag f).toNat,eR (ag c %ag f).toNat,()):=by
 unfold Cp;refine bQ.1 ?_;have K:=e7 l;have I:0<ag f:=(by have:=e7 p;have:ag f≠0:=λam=>N (e5.zero p F am);omega);refine ae.bs (GM l p V F aa aa) ?_;dsimp only;rw[cO];refine ae.ite (λt=>?_) λt=>?_
 ·have C:ag c<ag f:=by
   unfold fE at t;split at t
   ·assumption
   split at t<;>omega
  refine ae.bs (yW aa) (bu.2 ?_);rw[pj K C,rY K C];show(([]:aif),c,())=(eR 0,eR (ag c).toNat,());rw[Hu,<-e5.eq l V]
 have em:ag f<=ag c:=by
  unfold fE at t;split at t
  ·omega
  omega
 rw[gK,cO];refine ae.ite (λh=>?_) λh=>?_
 ·have h:f.length=1:=(by simp only[bf] at h;omega);obtain⟨o,rfl⟩:=List.length_eq_one_iff.1 h;have co:=(aQ.cons.1 p).1;have u:ag [o]=o:=(by simp[ag]);rw[u] at I|-;have d3:0<=ag c %o:=akn _ aa;have fl:ag c %o<o:=akm _ I;refine ae.bs (y:=o) rfl (ae.bs (ac6 l aa aa co.2) ?_);dsimp only;refine ae.bs (oA (aQ.cons.2 ⟨⟨d3,aa⟩,aQ.nil⟩) ac) (bu.2 ?_);show(_,im [ag c %o],())=_;rw[im];simp[ag]
 obtain⟨b,cv⟩:∃b,f.length=b+2:=(by have:=yy.2 N;simp only[bf] at h;exact⟨f.length-2,aa⟩);have aq:ax (al f-1)=((b+1:X):Z):=(by simp only[bf];rw[cL aa aa];omega);obtain⟨a,T,d5,U,d6⟩:=X2 p F cv;have ex:b+2<=c.length:=by
  rcases cQ c.length (b+2) with j|j
  ·have:=qp l p F aa;omega
  exact j
 have D:=jK a;refine ae.bs (y:=f[b+1]) (by rw[aq];exact e1 aa) (ae.bs d5 ?_);refine ae.bs (Ko p aa aa) ?_;obtain⟨s,u⟩:∃s,s=eR (ag f*2^a).toNat:=⟨_,bn⟩;have bl:0<=ag f*2^a:=akY aa aa;have M:ag s=ag f*2^a:=(by rw[u,uU bl]);have vb:aQ s:=(by rw[u];exact oc _);have d7:e5 s:=(by rw[u];exact xh _);obtain⟨d0,c1⟩:=Uq M vb d7 U d6;rw[<-u];have an:aP (al c)=((c.length+1:X):Z):=bi aa;refine ae.bs (y:=c.length+1) (by rw[an];exact h6 aa) ?_;refine ae.bs (Ko l aa aa) ?_;have a4:0<=ag c*2^a:=akY aa aa;have el:ag c*2^a<aU (c.length+1):=(by have w:ag c*2^a<aU c.length*2^a:=ak1 (g5 l) D;have x:aU c.length*2^a<=aU c.length*4294967296:=ak5 (by have:=vr T;omega) (aiB (fN _));rw[hV,aji 4294967296];omega);obtain⟨m,E⟩:∃m,m=eR (ag c*2^a).toNat:=⟨_,bn⟩;have R:m.length<=c.length+1:=(by rw[E];exact rc aa);have d2:aQ m:=(by rw[E];exact oc _);have d1:ag m=ag c*2^a:=(by rw[E,uU a4]);rw[<-E];obtain⟨i,O⟩:∃i,i=jm (bJ (c.length+1) (0:Z)) m 0 (bJ (c.length+1) (0:Z)).length:=⟨_,bn⟩;have J:i=m++bJ (c.length+1-m.length) 0:=(by rw[O];unfold jm;rw[List.take_zero,al1,List.length_replicate,Nat.sub_zero,ch R,am7,ajz R,List.drop_replicate]);have dl:i.length=c.length+1:=(by rw[J];simp;omega);have S:aQ i:=(by rw[J];exact aQ.append.2 ⟨d2,aQ.lL _⟩);have Q:ag i=ag c*2^a:=(by rw[J,l6,pg,d1];omega);dsimp only;rw[<-O];obtain⟨g,cs⟩:∃g,c.length+1=g+(b+2):=⟨c.length+1-(b+2),aa⟩;have ap:ax (al i-al s)=((g:X):Z):=(by simp only[bf];rw[cL aa aa];omega);refine ae.bs (y:=g) (by rw[ap];exact h6 aa) ?_;have C:ag (i.drop g)<ag f*2^a:=(by have h:=oC i g aa;have w:=e7 (S.take g);rw[Q] at h;have x:ag c*2^a<aU c.length*2^a:=ak1 (g5 l) D;have H:aU c.length=aU g*aU (b+1):=(by rw[<-tF];congr 1;omega);have v:aU g*ag (i.drop g)<aU g*(aU (b+1)*2^a):=(by rw[<-Int.mul_assoc,<-H];omega);have z:=ako v (aiB (fN g));have ek:aU (b+1)*2^a<=aU (b+1)*2147483648:=ak5 (vr T) (aiB (fN _));omega);refine ae.aK (P:=λad=>∃d e,ad=(d,e,())/\d.length=g/\aQ d/\e.length=c.length+1/\aQ e/\ag e+ag f*2^a*ag d=ag c*2^a/\ag e<ag f*2^a) (Up vb M U d0 c1 aa S Q dl cs aa C λd e h w x H v z=>⟨d,e,bn,h,w,x,H,v,z⟩) ?_;rintro _ ⟨d,e,rfl,aw,d4,fs,G,v,z⟩;have av:al s=((b+2:X):Z):=(by simp only[bf];omega);dsimp only;rw[av];refine ae.bs (Fr aa) ?_;have c2:=e7 G;have ds:ag (e.take (b+2))=ag e:=by
  have h:=oC e (b+2) aa;have w:=e7 (G.drop (b+2));have x:=e7 (G.take (b+2));rcases iX 0 (ag (e.drop (b+2))) with j|j
  ·exfalso;have:=jL (aa:1<=ag (e.drop (b+2))) (fr (fN (b+2)));omega
  rw[(aa:ag (e.drop (b+2))=0)] at h;omega
 have L:ag e=2^a*(ag c-ag f*ag d):=(by have d8:ag f*2^a*ag d=2^a*(ag f*ag d):=(by grind);have d9:2^a*(ag c-ag f*ag d)=2^a*ag c-2^a*(ag f*ag d):=Int.mul_sub ..;rw[kN (ag c)] at v;omega);have bx:0<=ag c-ag f*ag d:=by
  rcases iX (ag c-ag f*ag d) 0 with j|j
  ·have:=am8 D j;omega
  exact j
 have ce:ag c-ag f*ag d<ag f:=(by have:2^a*(ag c-ag f*ag d)<2^a*ag f:=(by rw[<-L,aji (2^a)];exact z);exact ako this (aiB D));have ci:ag e/2^a=ag c-ag f*ag d:=(by rw[L];exact am9 _ aa);obtain⟨a3,f2⟩:=E6 (A:=ag c) (B:=ag f) (q:=ag d) (r:=ag c-ag f*ag d) I aa bx ce;refine ae.bs (oA ((G.take _).drop _) (by simp;omega)) ?_;have a0:im (al0 0 (e.take (b+2)))=eR (ag e).toNat:=(by rw[List.drop_zero,im,ds]);dsimp only;rw[a0];refine ae.bs (Ml (oc _) (xh _) ?_ aa) ?_
 ·have:=rc (n:=(ag e).toNat) (k:=b+2) aa;omega
 dsimp only;refine ae.bs (oA d4 aa) (bu.2 ?_);show(im d,_,())=_;rw[uU c2,ci,a3,f2,im]
def MC (a:X):eR (a:Z).toNat=eR a:=by rw[fJ]
theorem zW (a:aN e<=32*b):(eR e).length<=b:=by refine rc ?_;grind [qu,xY,fU]
theorem BZ:fE a d>=0↔d<=a:=by grind [fE]
theorem LX:fE a d<0↔a<d:=by grind [fE]
def Br (a:pi):Prop:=aQ a.2.1/\e5 a.2.1/\a.2.1.length<=100000
def hS {z:Z} (a:aN z.natAbs<=3000000):Br (aR z):=⟨mj z,DN z,zW aa⟩
theorem pf (a:aQ c) (b:e5 c) (e:c.length<=1000000):iy (c,())=Y (c,()):=by have d:=e5.eq a b;rw[oA a aa];show Y (eR (ag c).toNat,())=_;grind
theorem sk {neg:bA} {x:Z} (a:0<=x) (b:(eR x.toNat).length<=100000000):lV (neg,eR x.toNat,())=Y (aR (if neg then-x else x),()):=by grind [uU,wx,oc,hg]
theorem UJ {x y:X} {k:X} (a:(eR x).length<=k) (b:(eR y).length<=k):(eR (x+y)).length<=k+1:=by refine rc ?_;have c:=MB x;have d:=MB y;have e:=pa a;have f:=pa b;grind [hV,fN]
def Bi {l:aif} (d:aQ l) (c:l.length<=b) (g:a<=ag l):(eR a.toNat).length<=b:=by refine rc ?_;have e:=g5 d;have f:=pa c;have:=fN b;omega
theorem K7 {a b:pi} (t:Br a) (u:Br b):uw (a,b,())=Y (aR (hg a+hg b),()):=by
 obtain⟨j,a,_⟩:=a;obtain⟨k,b,_⟩:=b;obtain⟨c,g,r⟩:=t;obtain⟨d,h,s⟩:=u;dsimp only at c g r d h s;have x:=e7 c;have y:=e7 d;have aw:=g5 c;have z:=g5 d;have A:=pa (m:=a.length) (n:=100000) r;have B:=pa (m:=b.length) (n:=100000) s;have C:=fN 100000;have w:∀e:Z,e<=ag a+ag b->(eR e.toNat).length<=100000001:=λe v=>(by have:(eR e.toNat).length<=100001:=(by refine rc ?_;grind [hV]);omega);have q:∀e:Z,e<=ag a+ag b->(eR e.toNat).length<=100000000:=λe v=>(by have:(eR e.toNat).length<=100001:=(by refine rc ?_;grind [hV]);omega);unfold uw;dsimp only;refine ai (pf c g aa) (ai (pf d h aa) ?_);dsimp only;cases i:(j==k) with
 |true=>
  have i:j=k:=(by grind);subst i;refine ai (PR c d aa aa) (ai (sk aa (q _ aa)) ?_);grind [hg]
 |false=>
  have i:j=!k:=(by cases j<;>cases k<;>simp at i|-);refine ai (GM c d g h aa aa) ?_;dsimp only;rw[cO];split
  ·rename_i l;have p:ag b<=ag a:=BZ.1 l;have o:b.length<=a.length:=by
    rcases cQ a.length b.length with f|f
    ·have:=qp c d h f;omega
    omega
   refine ai (Ob c d aa o p) (ai (sk aa (q _ aa)) ?_);grind [hg]
  rename_i l;have p:ag a<ag b:=Int.not_le.1 (mt BZ.2 l);have o:a.length<=b.length:=by
   rcases cQ b.length a.length with f|f
   ·have:=qp d c g f;omega
   omega
  refine ai (Ob d c aa o (fr p)) (ai (sk aa (q _ aa)) ?_);grind [hg]
def K6 {x y:Z} (a:aN x.natAbs<=3000000) (b:aN y.natAbs<=3000000):uw (aR x,aR y,())=Y (aR (x+y),()):=by rw[K7 (hS a) (hS b),oB,oB]
theorem adx {x y:Z} (b:aN x.natAbs<=3000000) (c:aN y.natAbs<=3000000):Co (aR x,aR y,())=Y (aR (x-y),()):=by unfold Co;have a:Br ((!(aR y).1,(aR y).2):pi):=⟨mj y,DN y,(hS c).2.2⟩;refine ai (K7 (hS b) a) ?_;rw[oB];have d:hg ((!(aR y).1,(aR y).2):pi)=-y:=(by have:=FF (aR y).1 (aR y).2.1;have e:=oB y;grind);grind
theorem XI (f:aN a.natAbs<=3000000) (g:aN d.natAbs<=3000000):Cm (aR a,aR d,())=Y (aR (a*d),()):=by
 unfold Cm;dsimp only;obtain⟨b,h,l⟩:=hS f;obtain⟨c,i,m⟩:=hS g;refine ai (pf b h aa) (ai (pf c i aa) ?_);dsimp only;refine ai (adS b c aa aa) ?_;rw[ih,ih,<-Int.natCast_mul,MC];dsimp only;have n:(eR (a.natAbs*d.natAbs)).length<=100000000:=(by have:(eR (a.natAbs*d.natAbs)).length<=200000:=(by refine zW ?_;have:=yQ f g;omega);omega);have e:=sk (neg:=!((aR a).1==(aR d).1)) (x:=((a.natAbs*d.natAbs:X):Z)) aa (by grind);rw[MC] at e;refine ai e ?_;dsimp only;congr 3;show(if(!(br (a<0)==br (d<0)))=bp then _ else _)=_;rw[Int.natCast_mul];rcases ajh a 0 with j|j<;>rcases ajh d 0 with k|k
 ·grind
 ·grind
 ·grind
 grind
theorem LY {x y:Z} (i:aN x.natAbs<=900000) (l:aN y.natAbs<=900000):zd (aR x,aR y,())=Y (fE x y,()):=by
 obtain⟨c,d,m⟩:=hS (z:=x) aa;obtain⟨e,f,n⟩:=hS (z:=y) aa;unfold zd;refine ai (tv (jF aa)) (ai (tv (jF aa)) ?_);dsimp only;rw[cO,cO];have h:∀a:Z,a<0/\gB a=-1\/a=0/\gB a=0\/0<a/\gB a=1:=λa=>(by grind [gB]);split
 ·rename_i o;unfold fE;grind
 split
 ·rename_i j k;unfold fE;grind
 rename_i j k;have p:gB x=gB y:=aa;refine ai (pf c d aa) (ai (pf e f aa) ?_);dsimp only;refine ai (GM c e d f aa aa) ?_;rw[ih,ih];dsimp only;have i:=h x;have l:=h y;have:gB x*fE (x.natAbs:Z) (y.natAbs:Z)=fE x y:=by
  rcases i with⟨g,b⟩|⟨g,b⟩|⟨g,b⟩<;>rw[b]
  ·unfold fE;omega
  ·rw[qx];unfold fE;omega
  grind
 grind [cL,fE]
def XL (b:Z) (a:X):(b.natAbs:Z)*2^a=((b.natAbs*2^a:X):Z):=by simp
theorem yR:aN (b*2^e)<=aN b+e:=by
 rcases pB b with a|a
 ·grind
 simp_all [sl,bc]
theorem ac5 (i:aN a.natAbs<=1900000) (h:b<=1048576):qZ (aR a,(b:Z),())=Y (aR (a*2^b),0,()):=by obtain⟨c,d,f⟩:=hS (z:=a) aa;unfold qZ;dsimp only;rw[aI (aa:¬((b:Z)< -1048576)),aI (aa:¬((b:Z)>1048576))];refine ai bn (ai (pf c d aa) ?_);dsimp only;rw[aL (aa:(b:Z)>=0)];refine ai (Ko c aa aa) ?_;rw[ih,XL];have g:(eR (a.natAbs*2^b)).length<=100000:=zW (by grind [yR]);have e:=sk (neg:=(aR a).1) (x:=((a.natAbs*2^b:X):Z)) aa (by grind);refine ai e ?_;dsimp only;congr 3;show(if br (a<0)=bp then _ else _)=_;grind
theorem Ow {m:Z} (b:0<a) (d:0<=m):-m/a=if m %a=0 then-(m/a) else-(m/a+1):=by
 have e:=lO m a;have f:=nX m (aa:a≠0);have g:=pk m b;split
 ·rename_i c;refine(E6 (A:=-m) (B:=a) (q:=-(m/a)) (r:=0) b ?_ (ajg _) b).1;grind
 rename_i c;refine(E6 (A:=-m) (B:=a) (q:=-(m/a+1)) (r:=a-m %a) b ?_ aa aa).1;grind
theorem ac4 (u:aN a.natAbs<=1900000) (q:b<=1048576) (r:0<b):qZ (aR a,-(b:Z),())=Y (aR (a/2^b),0,()):=by
 obtain⟨e,f,g⟩:=hS (z:=a) aa;have i:=jK b;unfold qZ;dsimp only;rw[aI (aa:¬(-(b:Z)< -1048576)),aI (aa:¬(-(b:Z)>1048576))];refine ai bn (ai (pf e f aa) ?_);dsimp only;rw[aI (aa:¬(-(b:Z)>=0))];have aq:ax (0- -(b:Z))=(b:Z):=(by grind [cL]);rw[aq];refine ai (Ml e f aa aa) ?_;rw[ih];have s:0<=(a.natAbs:Z)/2^b:=ai9 aa aa;have j:(a.natAbs:Z)/2^b<=a.natAbs:=akp _ aa;have h:∀d:Z,d<=a.natAbs->(eR d.toNat).length<=100000:=λd t=>Bi (l:=(aR a).2.1) e g (by grind [ih]);have p:(eR ((a.natAbs:Z)/2^b+1).toNat).length<=100001:=(by have n:=UJ (x:=((a.natAbs:Z)/2^b).toNat) (y:=1) (k:=100000) (h _ j) ab;grind);dsimp only;refine ai (y:=(eR (if a<0/\(a.natAbs:Z) %2^b≠0 then(a.natAbs:Z)/2^b+1 else(a.natAbs:Z)/2^b).toNat,(bq,([],())),())) ?_ ?_
 ·refine ai (y:=(br (a<0/\(a.natAbs:Z) %2^b≠0),(bq,([],())),())) ?_ ?_
  ·show(bif br (a<0)==bp then _ else _)=_;by_cases c:a<0
   ·simp[c]
   grind
  dsimp only;by_cases c:a<0/\(a.natAbs:Z) %2^b≠0
  ·rw[aL c,au c];refine ai (PR (oc _) (aQ.cons.2 ⟨ab,aQ.nil⟩) (by grind) ac) ?_;grind [uU,ag]
  grind
 dsimp only;refine ai (sk ?_ ?_) ?_
 ·omega
 ·grind
 dsimp only;congr 3;show(if br (a<0)=bp then _ else _)=_;by_cases c:a<0
 ·rw[au (aL c)];have o:=Ow (m:=a.natAbs) i aa;grind
 grind
theorem Us {x y:Z} (u:aN x.natAbs<=1900000) (w:aN y.natAbs<=1900000) (v:0<=x) (k:y≠0):Ck (aR x,aR y,())=Y (aR (x/y),aR (x %y),0,()):=by obtain⟨b,d,g⟩:=hS (z:=x) aa;obtain⟨c,e,h⟩:=hS (z:=y) aa;unfold Ck;dsimp only;refine ai (pf c e aa) ?_;dsimp only;have f:(aR y).2.1≠[]:=λi=>k (xf.1 i);rw[s3,aI f];refine ai (pf b d aa) ?_;dsimp only;refine ai (Ur b c d e aa aa f) ?_;rw[ih,ih];dsimp only;have m:(aR x).1=bq:=aI aa;have n:0<=(x.natAbs:Z)/(y.natAbs:Z):=ai9 aa aa;have s:(x.natAbs:Z)/(y.natAbs:Z)<=x.natAbs:=akp _ aa;have o:0<=(x.natAbs:Z) %(y.natAbs:Z):=akn _ aa;have t:(x.natAbs:Z) %(y.natAbs:Z)<(y.natAbs:Z):=akm _ aa;have q:∀a:Z,a<=x.natAbs->(eR a.toNat).length<=100000:=λa p=>Bi (l:=(aR x).2.1) b g (by grind [ih]);have r:∀a:Z,a<=y.natAbs->(eR a.toNat).length<=100000:=λa p=>Bi (l:=(aR y).2.1) c h (by grind [ih]);rw[m];refine ai bn ?_;dsimp only;refine ai (sk n (by grind)) (ai (sk o (by grind)) ?_);dsimp only;have aq:(x.natAbs:Z)=x:=aa;rw[aq];have j:x %(y.natAbs:Z)=x %y:=(by grind [ana,ajh]);rw[j];congr 3;show(if(!(bq==br (y<0)))=bp then _ else _)=_;grind [aI,aL,anb,ajh]
theorem D2 {n:Z} (c:-9223372036854775808<=n) (d:n<=9223372036854775807):ux (n,())=Y (aR n,()):=by
 unfold ux;dsimp only;obtain⟨a,e,b,f⟩:∃a:Z,a=n.natAbs/\0<=a/\a<=9223372036854775808:=⟨_,bn,aa,aa⟩;refine ai (y:=(a,(bq,([],())),())) ?_ ?_
 ·rw[cO];grind [rR]
 dsimp only;rw[m3,bM,rv b aa,k9 (x:=a/4294967296) aa aa];refine ai (wx (aQ.cons.2 ⟨⟨aa,aa⟩,aQ.cons.2 ⟨⟨aa,aa⟩,aQ.nil⟩⟩) ac) ?_;grind [ag,hg]
theorem Wp (d:aQ c) (s:c.length<=2) {e:cJ->Prop} (q:e (ag c,())):ae (loop (σ:=nr) (ρ:=cJ) (λ(j,b,_)=>
 bif br (b<al c) then
 (ao c b).bind λo=>
 (h0 bE (aM o) (ax (32*b))).bind λp=>
 Y (.inl (gk bE j p,aP b,())) else
 Y (.inr (j,()))) (0,0,())) e:=by
 refine ae.steps c.length (λa n=>n=(ag (c.take a),(a:Z),())) rfl ?_ ?_
 ·rintro a _ g rfl;have i:=d.get g;simp only[aL (show(a:Z)<al c by grind),bG,e1 g,aD];have k:=e7 (d.take a);have f:=g5 (d.take a);rw[fQ,hI aa,qu] at f;have aq:ax (32*(a:Z))=((32*a:X):Z):=(by grind [cL]);have l:(2:Z)^(32*a)<=4294967296:=by
   rcases(aa:a=0\/a=1) with rfl|rfl<;>decide
  have m:=jK (32*a);have r:c[a]*2^(32*a)<4294967296*4294967296:=(by have:=jL l i.1;omega);have h:0<=c[a]*2^(32*a):=m8 i.1 (fr m);rw[aq,fy (x:=c[a]) aa aa,nT aa aa,aD,fJ,rY h aa,m0 (32*a) k f h aa aa (ak2 _ _),bi aa];grind [ip,qu,aji,bu]
 rintro _ rfl;simp_all [bu,fB,bc,aI,bf,bP,al]
theorem Wq {z:Z} (h:0<=z) (c:z<9223372036854775808):Cl (aR z,())=Y (z,bp,()):=by have i:aN z.natAbs<=64:=fU.2 aa;obtain⟨a,b,g⟩:=hS (z:=z) aa;have d:(aR z).2.1.length<=2:=zW aa;unfold Cl;dsimp only;refine bQ.1 ?_;refine ae.bs (pf a b aa) ?_;dsimp only;rw[aI (show¬(al (aR z).2.1>2) by grind),bP];refine ae.aK (P:=λf=>f=(z,())) (Wp a d (by grind [ih])) ?_;rintro _ rfl;have e:(aR z).1=bq:=aI aa;dsimp only;rw[e];refine ae.bs (y:=.inr (z,bp,())) ?_ (bu.2 bn);refine ai bn ?_;dsimp only[bP];rw[aL (show z<9223372036854775808 from c)];refine ai bn ?_;dsimp only[bG];grind [cL]
theorem Fl (p:aQ c) (q:c.length<=100000000):mi (c,())=Y (im c,()):=by
 unfold mi;refine bQ.1 ?_;refine ae.aK (P:=λh=>∃a:X,h.1=(a:Z)/\a<=c.length/\(∀b,a<=b->(k:b<c.length)->c[b]=0)/\e5 (c.take a)) ?_ ?_
 ·refine aiA (λe=>∃a:X,e.1=(a:Z)/\a<=c.length/\(∀b,a<=b->(k:b<c.length)->c[b]=0)) (λe=>e.1.toNat) ⟨c.length,bn,bc _,λb f g=>by omega⟩ ?_;rintro⟨_,_⟩ ⟨a,rfl,f,g⟩;rcases a with _|a
  ·refine bu.2 ⟨0,bn,da _,g,λm l=>by grind⟩
  have aq:ax (((a+1:X):Z)-1)=(a:Z):=(by grind [cL]);have j:br (((a+1:X):Z)>0)=bp:=aL aa;simp only[aq,j,aiN,bG,e1 (show a<c.length from f),aD];by_cases i:c[a]=0
  ·rw[gK,aL i];grind [cl,bu]
  rw[gK,aI i];refine bu.2 ⟨a+1,bn,f,g,λm l=>?_⟩;grind
 rintro⟨_,_⟩ ⟨a,rfl,f,g,n⟩;dsimp only;refine ae.aK (P:=λh=>h=(c.take a,())) ?_ ?_
 ·refine ae.steps a (λd e=>e=((d:Z),c.take d,())) rfl ?_ ?_
  ·rintro d _ o rfl;simp only[aL (aa:(d:Z)<(a:Z)),bG,e1 (aa:d<c.length),aD];grind [cr,bS,bu,dc,bi]
  rintro _ rfl;simp_all [bu,aI,bP]
 grind [bu,Rl]
theorem A4 (d:aQ c) (e:c.length<=100000000):lX (g,c,())=Y (aR (hg (g,c,())),()):=by
 unfold lX;refine ai (Fl d e) ?_;have a:=My (neg:=g) (Kg c) (Rk c);have b:hg (g,im c,())=hg (g,c,()):=(by grind [Kh,hg]);rw[<-b,<-a];dsimp only;cases g
 ·simp
 simp_all [aiN,bG,ake,cy,bf,yy]
theorem tp (b:aQ c) (d:c.length<=100000000) (e:ag c=a):lX (g,c,())=Y (aR (if g then-a else a),()):=by grind [A4,hg]
theorem tr {l:aif} (a:aQ l) (b:e5 l) (d:l.length<=1000000):mi (l,())=Y (l,()):=by have c:=e5.eq a b;rw[Fl a aa];show Y (eR (ag l).toNat,())=_;grind
def Qo {a:pi} (b:aQ a.2.1) (c:a.2.1.length<=100000000):pY (a,())=Y (aR (hg a),()):=by unfold pY;exact ai (A4 b c) rfl
def x2 (b:aN a.natAbs<=3000000):pY (aR a,())=Y (aR a,()):=by rw[Qo (mj a) (by have:=(hS b).2.2;omega),oB]
theorem Qn (b:aN a.natAbs<=3000000):zz (aR a,())=Y (aR (-a),()):=by unfold zz;refine ai (A4 (mj a) (by have:=(hS b).2.2;omega)) ?_;grind [oB,FF]
theorem AT (b:aN a.natAbs<=3000000):q1 (aR a,())=Y (aR a.natAbs,()):=by unfold q1;refine ai (A4 (mj a) (by have:=(hS b).2.2;omega)) ?_;grind [oB,Rx,mj]
theorem kI {z:Z} (a:aN z.natAbs<=3000000):lW (aR z,())=Y (gB z,()):=by
 unfold lW;refine ai (x2 a) ?_;simp only[s3,cO,xf];unfold gB;split
 ·rfl
 show(bif br (z<0) then _ else _)=_;grind
theorem AV {z:Z} (d:aN z.natAbs<=3000000):uG (aR z,())=Y ((aN z.natAbs:Z),()):=by obtain⟨a,b,e⟩:=hS d;have c:=NN a b aa;rw[ih] at c;unfold zh at c;unfold uG;refine ai (tr a b aa) ?_;grind
theorem QB (v:aN a.natAbs<=900000) (s:a≠0):q2 (aR a,())=Y ((c3 a.natAbs:Z),()):=by
 obtain⟨e,i,r⟩:=hS (z:=a) aa;unfold q2;refine ai (tr e i aa) ?_;have u:=ih a;dsimp only;generalize(aR a).2.1=b at*;have m:a.natAbs=(ag b).toNat:=aa;rw[m];refine bQ.1 (ae.aK (P:=λo=>match o with|.inl _=>b6|.inr p=>p=((c3 (ag b).toNat:Z),())) ?_ ?_)
 ·refine ae.steps b.length (λc q=>q=((c:Z),())/\ag (b.take c)=0) ⟨bn,bn⟩ ?_ ?_
  ·rintro c _ f ⟨rfl,j⟩;have h:=e.get f;simp only[aL (show(c:Z)<al b by grind),bG,e1 f,aD,fO];by_cases d:b[c]=0
   ·simp only[aL d,gQ,bP];grind [ip,bu,bi]
   simp only[aI d,ma,bG];have k:=Rs (x:=0) j f e d;rw[k];obtain⟨g,l⟩:=gh h.1;rw[l] at h d|-;have t:c3 g<32:=i9 (vK aa) (fU.2 aa);refine ae.of_eq (ai (Rr (n:=g) aa aa) rfl) ?_;grind [cL]
  grind
 grind [bu]
theorem P0 {n:X} (c:n<=1000000000):∃b a:X,n=32*b+a/\a<32/\kc bK (n:Z) 32=Y (b:Z)/\iM (n:Z) 32=Y (a:Z):=by
 refine⟨n/32,n %32,aa,aa,?_,?_⟩
 ·unfold kc;rw[au ab,FO aa,ct aa aa];simp
 simp_all [au,FP,iM]
theorem JK {n:X} (u:aQ c) (I:c.length<=10000000) (E:n<=100000000):ae (w2 (c,(n:Z),())) (λl=>∃a,l=(a,())/\aQ a/\ag a=ag c*2^n/\a.length=n/32+c.length+1):=by
 unfold w2;obtain⟨g,b,H,F,v,w⟩:=P0 (n:=n) aa;have j:=jK b;have A:=vq (p:=b) aa;have z:(2:Z)^b<=2147483648:=vr aa;dsimp only;refine ae.bs v (ae.bs (h6 aa) ?_);refine ae.aK (P:=λl=>∃d a,l=(d,a,())/\a.length=g+c.length/\aQ a/\0<=d/\d<2^b/\ag a+aU (g+c.length)*d=aU g*(2^b*ag c)) ?_ ?_
 ·refine ae.steps c.length (λe y=>∃d a,y=(d,(e:Z),a,())/\a.length=g+e/\aQ a/\0<=d/\d<2^b/\ag a+aU (g+e)*d=aU g*(2^b*ag (c.take e))) ⟨0,bJ g 0,bn,ac,aQ.lL _,aa,j,by simp[ag,pg]⟩ ?_ ?_
  ·rintro e _ m ⟨d,a,rfl,aw,h,i,q,k⟩;have o:=u.get m;simp only[aL (show(e:Z)<al c by grind),bG,e1 m,aD,w];have C:c[e]*2^b<4294967296*2^b:=rZ o.2 j;have B:c[e]*2^b<=4294967295*2^b:=m7 aa aa;have D:0<=c[e]*2^b:=m8 o.1 (fr j);obtain⟨f,G,J,K,L⟩:∃f,f=d+c[e]*2^b/\0<=f/\f<18446744073709551616/\f<4294967296*2^b:=⟨_,bn,aa,aa,aa⟩;have r:h0 bE (aM c[e]) (b:Z)=Y (c[e]*2^b):=by
    rw[fy (x:=c[e]) aa aa,nT aa aa,fJ];congr 1;omega
   have s:gk bE d (c[e]*2^b)=f:=(by grind [m0,ak2]);have t:f/4294967296<2^b:=rX ab aa;rw[r,aD,s,dc (by grind),m3,ph];refine bu.2 ⟨f/4294967296,a++[f %4294967296],by rw[bi aa],by grind,h.snoc aa aa,aa,t,?_⟩;grind [tF,ajA,qq,hV,ip]
  rintro _ ⟨d,a,rfl,aw,h,i,q,k⟩;simp only[aI (show¬((c.length:Z)<al c) by grind),bP];rw[fB (bc _)] at k;grind [bu]
 rintro _ ⟨d,a,rfl,aw,h,i,q,k⟩;dsimp only;rw[k9 i aa,dc (by grind)];refine bu.2 ⟨a++[d],bn,h.snoc i aa,?_,by grind⟩;grind [qq,qu,anc]
theorem P6 (g:aQ c) (h:aQ f) (o:e5 c) (p:e5 f) (t:c.length<=10000000) (u:f.length<=10000000):zA (c,f,())=Y (fE (ag c) (ag f),()):=by
 unfold zA;refine bQ.1 ?_;simp only[fO,bf];by_cases s:c.length=f.length
 ·rw[aL (aa:(c.length:Z)=f.length)];simp only[gQ,bP];refine ae.aK (P:=λl=>match l with|.inl _=>ag c=ag f|.inr m=>m=(fE (ag c) (ag f),())) ?_ ?_
  ·refine ae.steps c.length (λb n=>n=(((c.length:X):Z)-1-b,())/\ag (c.drop (c.length-b))=ag (f.drop (c.length-b))) ⟨?_,?_⟩ ?_ ?_
   ·grind [cL]
   ·rw[nZ aa,nZ aa]
   ·rintro b _ q ⟨rfl,e⟩;obtain⟨a,r⟩:∃a,c.length=a+1+b:=⟨c.length-1-b,aa⟩;have aq:((c.length:X):Z)-1-(b:Z)=(a:Z):=aa;have i:a<c.length:=aa;have j:a<f.length:=aa;rw[(aa:c.length-b=a+1)] at e;simp only[aq,aL (aa:(a:Z)>=0),bG,e1 i,e1 j,aD];by_cases k:c[a]=f[a]
    ·simp only[aL k,gQ,bP];grind [mF,cL,bu]
    simp only[aI k,ma,bG];rw[cO];refine ae.ite (λd=>?_) λd=>?_
    ·refine bu.2 ?_;show((-1:Z),())=_;unfold fE;rw[au (FG g h i j e d)]
    refine bu.2 ?_;show((1:Z),())=_;have:=FG h g j i e.symm aa;grind [fE]
   rintro _ ⟨rfl,e⟩;have aq:¬(((c.length:X):Z)-1-(c.length:Z)>=0):=aa;simp_all [bu,aI,bP]
  grind [bu,fE,ag]
 rw[aI (aa:¬(c.length:Z)=f.length)];simp only[ma,bG];rw[cO];unfold fE;refine ae.ite (λd=>bu.2 ?_) λd=>bu.2 ?_
 ·rw[au (qp g h p aa)]
 have:=qp h g o aa;grind
theorem W1 (j:aQ c) (v:l<32) (u:e+b<c.length) (t:a=ag (c.drop e)):a/2^l/aU b %4294967296=(c[e+b]+4294967296*c.getD (e+b+1) 0)/2^l %4294967296:=by
 have q:=jK l;have s:=vq (p:=l) aa;have r:a/aU b=(c[e+b]+4294967296*c.getD (e+b+1) 0)+4294967296*(4294967296*ag (c.drop (e+b+2))):=by
  have h:c.drop e=(c.drop e).take b++c.drop (e+b):=(by grind [aj3,ajM]);have g:a=ag ((c.drop e).take b)+aU b*ag (c.drop (e+b)):=(by grind [l6,air,alJ,ajz]);have m:=e7 ((j.drop e).take b);have i:=g5 ((j.drop e).take b);rw[fQ,na,hI aa] at i;have n:ag (c.drop (e+b))=c[e+b]+4294967296*ag (c.drop (e+b+1)):=mF aa;have o:ag (c.drop (e+b+1))=c.getD (e+b+1) 0+4294967296*ag (c.drop (e+b+2)):=by
   rcases cQ (e+b+1) c.length with f|f
   ·grind [mF,mT]
   rw[o1 f,nZ f,nZ aa];rfl
  rw[g,v5 _ _ aa,pj m i,n,o];grind
 have h:a/2^l/aU b=a/aU b/2^l:=(by rw[tI (fr q),tI (fr (fN b)),kN]);rw[h,r];generalize c[e+b]+4294967296*c.getD (e+b+1) 0=k;have g:∀d:Z,k+4294967296*(4294967296*d)=k+2^l*(4294967296*(2^(32-l)*d)):=λd=>(by grind);rw[g,v5 _ _ aa,yr]
theorem W9 (a:aQ c) (k:l<32) (i:e<c.length):(br (ag c %(aU e*2^l)≠0))=(br (ag (c.take e)≠0)||br (c[e] %2^l≠0)):=by have g:=jK l;have j:=vq (p:=l) aa;have h:=e7 (a.take e);have d:=g5 (a.take e);rw[fQ,hI aa] at d;have f:=NY (x:=ag (c.take e)) (b:=aU e) (y:=ag (c.drop e)) (P:=2^l) (P':=0) (fN e) ⟨h,d⟩ g;rw[<-oC c e aa] at f;simp_all [mF,j3,yr,ag]
theorem JL {a:aif} {n:X} (f:aQ a) (bl:a.length<=10000000) (a0:n<=1000000000):ae (w3 (a,(n:Z),())) (λh=>∃e,h=(e,br (ag a %2^n≠0),())/\aQ e/\ag e=ag a/2^n/\e.length<=a.length):=by
 unfold w3;obtain⟨b,d,R,C,o,O⟩:=P0 (n:=n) aa;have y:=jK d;have am:=vq (p:=d) aa;have V:(2:Z)^d<=2147483648:=vr aa;have K:(2:Z)^n=aU b*2^d:=(by rw[qu,R,anc]);have E:=e7 f;dsimp only;refine ae.aK (P:=λh=>h=(br (ag (a.take b)≠0),())) ?_ ?_
 ·have a4:∀c,min b a.length=c->br (ag (a.take b)≠0)=br (ag (a.take c)≠0):=λc s=>by
   grind
  refine ae.steps (min b a.length) (λc m=>m=(br (ag (a.take c)≠0),(c:Z),())) (by simp[ag]) ?_ ?_
  ·rintro c _ s rfl;have q:=f.get (n:=c) aa;simp only[o,aD,aL (aa:(c:Z)<(b:Z)),aiN,bG,aL (show(c:Z)<al a by grind),e1 (aa:c<a.length),bi (aa:c<9223372036854775807),fO];have v:ag (a.take (c+1))=ag (a.take c)+aU c*a[c]:=ip aa;have ad:=e7 (f.take c);have w:=fN c;by_cases i:ag (a.take c)=0
   ·rw[aI (show¬(ag (a.take c)≠0) fromλk=>k i)];refine bu.2 ?_;show((!br (a[c]=0)),_,())=_;congr 1;rw[v,i];by_cases U:a[c]=0
    ·grind
    have:=qw w (aa:0<a[c]);grind
   rw[aL (show ag (a.take c)≠0 from i)];refine bu.2 ?_;show(bp,_,())=_;congr 1;have:=m8 (fr w) q.1;grind
  rintro _ rfl;simp only[o,aD];by_cases i:min b a.length<b
  ·simp only[aL (aa:((min b a.length:X):Z)<(b:Z)),aiN,bG,aI (show¬(((min b a.length:X):Z)<al a) by grind),bP,aD];grind [bu]
  simp only[aI (aa:¬(((min b a.length:X):Z)<(b:Z))),show(bq==bp)=bq from rfl,bP,aD];grind [bu]
 rintro _ rfl;dsimp only;refine ae.bs O (ae.bs o ?_);rw[K];rcases cl b a.length with k|k
 ·obtain⟨g,z⟩:∃g,g=ag (a.drop b):=⟨_,bn⟩;have A:0<=g:=(by rw[z];exact e7 (f.drop b));have Q:ag a=ag (a.take b)+aU b*g:=(by grind [oC]);have N:=e7 (f.take b);have B:=g5 (f.take b);rw[fQ,hI aa] at B;have an:ag a/(aU b*2^d)=g/2^d:=by
   rw[<-tI (fr (fN b)),Q,v5 _ _ aa,pj N B,ajB]
  obtain⟨l,av⟩:∃l,a.length=b+l:=⟨a.length-b,aa⟩;have ap:g<aU l:=(by have:=g5 (f.drop b);grind);have J:=W9 f C k;refine ae.aK (P:=λh=>∃e,h=(br (ag a %(aU b*2^d)≠0),e,())/\e.length=l/\aQ e/\ag e=g/2^d) ?_ ?_
  ·refine ae.steps l (λc m=>∃e,m=(if c=0 then br (ag (a.take b)≠0) else br (ag a %(aU b*2^d)≠0),((b+c:X):Z),e,())/\e.length=c/\aQ e/\ag e+aU c*(g/2^d/aU c)=g/2^d) ⟨[],bn,bn,aQ.nil,by simp[ag,yk]⟩ ?_ ?_
   ·rintro c _ s ⟨e,rfl,aw,t,F⟩;have q:=f.get (n:=b+c) aa;have S:=f.getD (b+c+1);obtain⟨j,D,T,bx⟩:∃j,j=a[b+c]+4294967296*a.getD (b+c+1) 0/\0<=j/\j<18446744073709551616:=⟨_,bn,aa,aa⟩;have L:g/2^d/aU c %4294967296=j/2^d %4294967296:=(by rw[D];exact W1 f C aa z);have a3:0<=j/2^d:=ai9 T (aiB y);have G:aP ((b+c:X):Z)=((b+c+1:X):Z):=bi aa;dsimp only;rw[aY (aL (show((b+c:X):Z)<al a by grind))];refine ae.aK (P:=λh=>h=(br (ag a %(aU b*2^d)≠0),e++[j/2^d %4294967296],())) ?_ ?_
    ·refine ae.bs (e1 aa) ?_;refine ae.aK (P:=λh=>h=(j,e,())) ?_ ?_
     ·rw[G,cO];refine ae.ite (λi=>?_) λi=>?_
      ·have i:b+c+1<a.length:=(by grind);rw[e1 i,aD,fy (x:=a[b+c+1]) (by grind) (by grind),nT ab ab];rw[mT i] at D S;have H:a[b+c+1]*2^(32:Z).toNat %18446744073709551616=4294967296*a[b+c+1]:=by
        grind
       rw[aD,H,fy aa aa,m0 32 q.1 q.2 aa aa aa aa];grind [bu]
      grind [bf,o1,fy,bu]
     rintro _ rfl;dsimp only;refine ae.aK (P:=λh=>h=(br (ag a %(aU b*2^d)≠0),e,())) ?_ ?_
     ·refine ae.bs o ?_;by_cases M:c=0
      ·subst M;have r:(((b+0:X):Z)==(b:Z))=bp:=ac;rw[r];simp only[aiN,bG];refine ae.bs (e1 aa) ?_;rw[QQ aa aa,aD,fJ,akk,rY aa aa,k9 aa aa,Lf d (f.get (n:=b+0) aa).1 (f.get (n:=b+0) aa).2 aa,fO,J];grind [aI,bu,aL]
      have r:(((b+c:X):Z)==(b:Z))=bq:=(by grind);rw[r];simp only[show(bq==bp)=bq from rfl,bP];simp_all [az,bu]
     rintro _ rfl;dsimp only;rw[tu aa aa,bM,aiT,dc (by grind),ph];grind [bu]
    rintro _ rfl;dsimp only;refine bu.2 ⟨e++[j/2^d %4294967296],by grind,by grind,t.snoc aa aa,?_⟩;rw[qq,aw,<-L,hV,aji 4294967296 (aU c),<-am2 (aiB (fN c))];grind
   rintro _ ⟨e,rfl,aw,t,F⟩;dsimp only;rw[a1 (aI (show¬(((b+l:X):Z)<al a) by grind)),cn aa];refine bu.2 ⟨e,bn,aw,t,?_⟩;have u:0<=g/2^d:=ai9 A (aiB y);have I:g/2^d<=g:=akp _ A;rw[Int.ediv_eq_zero_of_lt u aa] at F;omega
  grind [bu]
 have u:=g5 f;have I:=pa k;have v:aU b*1<=aU b*2^d:=jL aa (fr (fN b));rw[pj E aa,rY E aa,fB k];refine ae.aK (P:=λh=>h=(br (ag a≠0),[],())) ?_ ?_
 ·refine ae.steps 0 (λc m=>m=(br (ag a≠0),(b:Z),[],())) rfl (λc m s=>by omega) ?_;rintro _ rfl;simp_all [bu,a1,aI,al]
 rintro _ rfl;exact bu.2 ⟨[],bn,aQ.nil,bn,ac⟩
theorem ab1 (o:aQ c) (p:aQ f) (y:c.length<=10000000) (z:f.length<=10000000):ae (Dd (c,f,())) (λh=>∃a,h=(a,())/\aQ a/\ag a=ag c+ag f/\a.length<=c.length+f.length+1):=by
 unfold Dd;dsimp only;obtain⟨g,u⟩:∃g,g=max c.length f.length:=⟨_,bn⟩;have q:(if al f>al c then al f else al c)=(g:Z):=(by grind);rw[q];refine ae.aK (P:=λh=>∃b a,h=(b,a,())/\a.length=g/\aQ a/\0<=b/\b<=1/\ag a+aU g*b=ag c+ag f) ?_ ?_
 ·refine ae.steps g (λd r=>∃b a,r=(b,(d:Z),a,())/\a.length=d/\aQ a/\0<=b/\b<=1/\ag a+aU d*b=ag (c.take d)+ag (f.take d)) ⟨0,[],bn,bn,aQ.nil,aa,aa,by simp[ag]⟩ ?_ ?_
  ·rintro d _ t ⟨b,a,rfl,l,i,j,m,n⟩;have w:=o.getD d;have x:=p.getD d;obtain⟨e,v,A,B,s⟩:∃e,e=b+c.getD d 0+f.getD d 0/\0<=e/\e<18446744073709551616/\e/4294967296<=1:=⟨_,bn,aa,aa,aa⟩;dsimp only;rw[aY (aL (aa:(d:Z)<(g:Z)))];refine ae.aK (P:=λh=>h=(e/4294967296,a++[e %4294967296],())) ?_ ?_
   ·refine ae.aK (P:=λh=>h=(b+c.getD d 0,a,())) ?_ ?_
    ·simp only[cO];refine ae.ite (λk=>?_) λk=>?_
     ·grind [fy,bu,mT,e1,bf]
     simp_all [o1,ak0,bu]
    rintro _ rfl;refine ae.aK (P:=λh=>h=(e,a,())) ?_ ?_
    ·simp only[cO];refine ae.ite (λk=>?_) λk=>?_
     ·grind [fy,bu,mT,e1,bf]
     simp_all [o1,ak0,bu]
    grind [dc,ph,m3,bu]
   rintro _ rfl;dsimp only;refine bu.2 ⟨e/4294967296,a++[e %4294967296],by rw[bi aa],by grind,i.snoc aa aa,aa,s,?_⟩;rw[qq,l,hV,ye,ye];grind
  rintro _ ⟨b,a,rfl,l,i,j,m,n⟩;dsimp only;rw[a1 (aI (aa:¬((g:Z)<(g:Z))))];grind [bu,ch]
 rintro _ ⟨b,a,rfl,l,i,j,m,n⟩;dsimp only;rw[dc (by grind),k9 j aa];refine bu.2 ⟨a++[b],bn,i.snoc j aa,?_,by grind⟩;grind [qq]
theorem QR (a:Z):eJ .u64 a 63=Y (a/9223372036854775808):=by have:eJ .u64 a 63=Y (a.fdiv 9223372036854775808):=rfl;grind
theorem QA (o:aQ c) (p:aQ f) (A:c.length<=10000000) (w:f.length<=c.length) (x:ag f<=ag c):ae (zB (c,f,())) (λg=>∃a,g=(a,())/\aQ a/\ag a=ag c-ag f/\a.length=c.length):=by
 unfold zB;dsimp only;refine ae.aK (P:=λg=>∃a b,g=(a,())/\a.length=c.length/\aQ a/\0<=b/\b<=1/\ag a-aU c.length*b=ag c-ag f) ?_ ?_
 ·refine ae.steps c.length (λd q=>∃b a,q=(b,(d:Z),a,())/\a.length=d/\aQ a/\0<=b/\b<=1/\ag a-aU d*b=ag (c.take d)-ag (f.take d)) ⟨0,[],bn,bn,aQ.nil,aa,aa,by simp[ag]⟩ ?_ ?_
  ·rintro d _ l ⟨b,a,rfl,h,i,j,k,m⟩;have y:=o.get l;have z:=p.getD d;obtain⟨e,v,r,s⟩:∃e,e=c[d]-b-f.getD d 0/\-4294967296<=e/\e<4294967296:=⟨_,bn,aa,aa⟩;dsimp only;rw[aY (aL (show(d:Z)<al c by grind))];refine ae.aK (P:=λg=>g=(-(e/4294967296),a++[e %4294967296],())) ?_ ?_
   ·refine ae.bs (e1 l) ?_;refine ae.aK (P:=λg=>g=(e %18446744073709551616,a,())) ?_ ?_
    ·simp_all [bf,o1,bu,rR,e1,mT,ae.ite,cO]
    grind [dc,ph,QR,bu]
   rintro _ rfl;dsimp only;refine bu.2 ⟨-(e/4294967296),a++[e %4294967296],by rw[bi aa],by grind,i.snoc aa aa,aa,aa,?_⟩;rw[qq,h,hV,ip l,ye];grind
  rintro _ ⟨b,a,rfl,h,i,j,k,m⟩;dsimp only;rw[a1 (aI (show¬((c.length:Z)<al c) by grind))];refine bu.2 ⟨a,b,bn,h,i,j,k,?_⟩;simp_all [ch,cd]
 rintro _ ⟨a,b,rfl,h,i,j,k,m⟩;have n:=g5 i;have t:=fN c.length;rw[h] at n;have u:b=0:=(by grind);grind [bu]
theorem acJ {h:aif} (y:aQ f) (q:b<f.length) (z:aQ c) (L:b+c.length<e) (J:e<=100000000) (w:h.length=e) (x:aQ h) (C:iH h (b+c.length)) {p:iG->Prop} (K:∀g a,a.length=e->aQ a->iH a (b+c.length)->0<=g->g<4294967296->ag a+aU (b+c.length)*g=ag h+aU b*(f[b]*ag c)->p (g,a,())):ae (loop (σ:=pJ) (ρ:=iG) (λ(k,j,m,_)=>
 bif br (j<al c) then
 (ao f (b:Z)).bind λu=>
 (ao c j).bind λs=>
 rd m (ax ((b:Z)+j)) λt=>
 wr m (ax ((b:Z)+j)) (dd (aM (aM (k+aM (aM u*aM s))+aM t))) λI=>
 (eJ bE (aM (aM (k+aM (aM u*aM s))+aM t)) 32).bind λH=>
 Y (.inl (H,aP j,I,())) else
 Y (.inr (k,m,()))) (0,0,h,())) p:=by
 refine ae.steps c.length (λd G=>∃g a,G=(g,(d:Z),a,())/\a.length=e/\aQ a/\iH a (b+c.length)/\0<=g/\g<4294967296/\ag a+aU (b+d)*g=ag h+aU b*(f[b]*ag (c.take d))) ⟨0,h,bn,w,x,C,aa,aa,by simp[ag]⟩ ?_ ?_
 ·rintro d _ l ⟨g,a,rfl,aw,o,r,D,E,F⟩;have A:=y.get q;have B:=z.get l;have N:=o.get (n:=b+d) aa;have M:=Au A B;obtain⟨i,O,P,Q⟩:∃i,i=g+f[b]*c[d]+a[b+d]/\0<=i/\i<18446744073709551616:=⟨_,bn,aa,aa⟩;simp only[aL (show(d:Z)<al c by grind),bG,e1 l,e1 q,aD];have aq:ax ((b:Z)+(d:Z))=((b+d:X):Z):=(by grind [cL]);rw[aq,lF aa];have v:aM (aM (g+aM (aM f[b]*aM c[d]))+aM a[b+d])=i:=by
   grind [fy]
  rw[v,ph,lJ aa,m3];refine bu.2 ⟨i/4294967296,a.set (b+d) (i %4294967296),by rw[bi aa],by grind,o.set aa aa,r.JU _ aa,aa,aa,?_⟩;rw[mG aa,(aa:b+(d+1)=(b+d)+1),hV,ip l];grind [tF,ajA]
 rintro _ ⟨g,a,rfl,aw,o,r,D,E,F⟩;simp_all [fB,bc,bu,aI,bf,bP,al]
theorem acA (s:aQ f) (t:aQ c) (v:f.length<=10000000) (w:c.length<=10000000):ae (Df (f,c,())) (λg=>∃a,g=(a,())/\aQ a/\ag a=ag f*ag c/\a.length=f.length+c.length):=by
 unfold Df;dsimp only;have r:ax (al f+al c)=((f.length+c.length:X):Z):=(by grind [cL,bf]);rw[r,h6 aa,bM];refine ae.aK (P:=λg=>∃a,g=(a,())/\a.length=f.length+c.length/\aQ a/\ag a=ag f*ag c) ?_ ?_
 ·refine ae.steps f.length (λb u=>∃a,u=((b:Z),a,())/\a.length=f.length+c.length/\aQ a/\iH a (b+c.length)/\ag a=ag (f.take b)*ag c) ⟨_,bn,ac,aQ.lL _,iH.lL _ _,by simp[ag,pg]⟩ ?_ ?_
  ·rintro b _ m ⟨a,rfl,aw,o,p,q⟩;dsimp only;rw[aY (aL (show(b:Z)<al f by grind))];refine ae.aK (P:=λg=>∃e d,g=(e,d,())/\d.length=f.length+c.length/\aQ d/\iH d (b+c.length)/\0<=e/\e<4294967296/\ag d+aU (b+c.length)*e=ag a+aU b*(f[b]*ag c)) (acJ s m t aa aa aw o p λe d n k h i j l=>⟨e,d,bn,n,k,h,i,j,l⟩) ?_;rintro _ ⟨e,d,rfl,n,k,h,i,j,l⟩;have aq:ax ((b:Z)+al c)=((b+c.length:X):Z):=(by grind [cL,bf]);dsimp only;rw[aq,k9 i j,lJ aa];refine bu.2 ⟨d.set (b+c.length) e,by rw[bi aa],by grind,k.set i j,?_,?_⟩
   ·rw[(aa:b+1+c.length=b+c.length+1)];exact h.set _
   rw[mG aa,h _ (bc _) aa,ip m,Int.sub_zero,l,q];grind
  rintro _ ⟨a,rfl,aw,o,p,q⟩;dsimp only;rw[a1 (aI (show¬((f.length:Z)<al f) by grind))];grind [bu]
 grind [bu]
section
section
variable {α B:Type}
theorem JC {d c e:bm α} {k:X} (g:k<c.length) (f:a=((d.length+k:X):Z)) (b:α->bv B):rd (d++(c++e)) a b=b c[k]:=by subst f;refine acd aa ?_ b;grind
theorem aeA {b c d:bm α} {k:X} (g:k<c.length) (h:a=((b.length+k:X):Z)) (f:α) (e:bm α->bv B):wr (b++(c++d)) a f e=e (b++(c.set k f++d)):=by subst h;rw[lJ (by grind),Bb g]
end
theorem adP {A w C v:aif} {g:Z} (u:aQ v) (x:aQ w) (V:w.length=v.length+1) (O:A.length+w.length<=100000000) (H:0<=g/\g<4294967296):ae (zC (A++(w++C),v,(A.length:Z),g,())) (λd=>(ag w<g*ag v/\d=(A++(w++C),bq,()))\/(∃l,g*ag v<=ag w/\d=(A++(l++C),bp,())/\l.length=w.length/\aQ l/\ag l=ag w-g*ag v)):=by
 unfold zC;dsimp only;have y:aP (al v)=((v.length+1:X):Z):=(by grind [bi,bf]);rw[y,h6 aa,bM];have R:=e7 u;have Q:=e7 x;refine ae.aK (P:=λd=>∃c b,d=(c,A++(w++C),b,())/\b.length=v.length+1/\aQ b/\0<=c/\c<=1/\ag b-aU (v.length+1)*c=ag w-g*ag v) ?_ ?_
 ·refine ae.steps (v.length+1) (λa p=>∃c h b,p=(c,h,(a:Z),A++(w++C),b,())/\b.length=v.length+1/\aQ b/\iH b a/\0<=h/\h<4294967296/\(a=v.length+1->h=0)/\0<=c/\c<=1/\ag b-aU a*(c+h)=ag (w.take a)-g*ag (v.take a)) ⟨0,0,bJ (v.length+1) 0,bn,ac,aQ.lL _,iH.lL _ _,aa,aa,λ_=>rfl,aa,aa,by simp[ag,pg]⟩ ?_ ?_
  ·rintro a _ I ⟨c,h,b,rfl,m,i,j,q,o,r,D,E,s⟩;have L:=u.getD a;have ad:=x.get (n:=a) aa;have U:=Au H L;obtain⟨f,K,am,an⟩:∃f,f=h+g*v.getD a 0/\0<=f/\f<18446744073709551616:=⟨_,bn,aa,aa⟩;obtain⟨e,S,M,N⟩:∃e,e=w[a]-c-f %4294967296/\-4294967296<=e/\e<4294967296:=⟨_,bn,aa,aa⟩;dsimp only;rw[aY (aL (show(a:Z)<=al v by grind))];refine ae.aK (P:=λd=>d=(-(e/4294967296),f/4294967296,A++(w++C),b.set a (e %4294967296),())) ?_ ?_
   ·refine ae.aK (P:=λd=>d=(f,A++(w++C),b,())) ?_ ?_
    ·rw[cO];refine ae.ite (λB=>?_) λB=>?_
     ·grind [fy,bu,mT,e1,bf]
     grind [bf,o1,bu]
    rintro _ rfl;dsimp only;have aq:ax ((a:Z)+(A.length:Z))=((A.length+a:X):Z):=(by grind [cL]);have z:aM (aM (aM w[a]-c)-eT bE f 4294967295)=e %18446744073709551616:=(by grind [and_low32,rR]);rw[JC (k:=a) aa aq,m3,bM,z,lJ aa,QR,bM,ph];refine bu.2 ?_;grind
   rintro _ rfl;dsimp only;refine bu.2 ⟨-(e/4294967296),f/4294967296,b.set a (e %4294967296),by rw[bi aa],by grind,i.set aa aa,j.set _,aa,aa,?_,aa,aa,?_⟩
   ·grind
   rw[mG aa,j a (bc _) aa,hV,ip (aa:a<w.length),ye];grind
  rintro _ ⟨c,h,b,rfl,m,i,j,q,o,r,D,E,s⟩;dsimp only;rw[a1 (aI (show¬(((v.length+1:X):Z)<=al v) by grind))];have G:=r bn;subst G;rw[ch aa,ch aa,ak0] at s;grind [bu]
 rintro _ ⟨c,b,rfl,m,i,j,q,o⟩;have J:=g5 i;have T:=e7 i;have K:=fN (v.length+1);rw[m] at J;dsimp only;rw[fO];by_cases t:c=0
 ·rw[aL t];subst t;rw[akj] at o;refine ae.aK (P:=λd=>d=(A++(b++C),())) ?_ ?_
  ·refine ae.steps (v.length+1) (λa p=>p=((a:Z),A++((b.take a++w.drop a)++C),b,())) rfl ?_ ?_
   ·rintro a _ I rfl;have aq:ax ((a:Z)+(A.length:Z))=((A.length+a:X):Z):=(by grind [cL]);dsimp only;rw[aY (aL (show(a:Z)<=al v by grind)),lF aa,aeA (k:=a) (by grind) aq,bi aa];refine bu.2 ?_;show(_,A++(List.set (b.take a++w.drop a) a b[a]++C),b,())=(_,A++((b.take (a+1)++w.drop (a+1))++C),b,());congr 4;have F:b.take (a+1)=b.take a++[b[a]]:=(by simp_all);rw[ak3 _ _ (by grind),F,air,ajz aa,Nat.sub_self,List.drop_eq_getElem_cons (aa:a<w.length),List.set_cons_zero,aiQ];rfl
   rintro _ rfl;dsimp only;rw[a1 (aI (show¬(((v.length+1:X):Z)<=al v) by grind))];grind [ch,al2,bu]
  grind [bu]
 grind [aI,bu]
theorem acf {n:X} (D:aQ c) (cs:ag c=a) (io:c.length=n+1) (ge:a<aU (n+1)) (gf:1<=c[n]) (dl:aQ f) (gc:ag f=d) (co:f.length=e) (hw:e=b+(n+1)) (f8:e<=10000000) (ib:1<=b) (c2:ag (f.drop b)<a) (s:aif) (gi:s.length=n+1) {J:jQ->Prop} (f9:∀l j,l.length=b->aQ l->j.length=e->aQ j->ag j+a*ag l=d->ag j<a->J (j,l,())):ae (loop (σ:=(Z×be×be×bt)) (ρ:=jQ) (λ(t,E,U,_)=>
 bif br (t>=0) then
 rd E (ax (t+al s)) λft=>
 (h0 bE (aM ft) 32).bind λfz=>
 rd E (ax (ax (t+al s)-1)) λfT=>
 (ao c (ax (al s-1))).bind λf0=>
 (kc bE (gk bE fz (aM fT)) (aM f0)).bind λan=>
 (loop (σ:=(Z×be×be×bt)) (ρ:=(Z×be×be×bt)) (λ(F,fn,V,_)=>
 (zC (fn,c,t,F,())).bind λ(R,el,_)=>
  bif !el then
 Y (.inl (aM (F-1),R,V,())) else
 Y (.inr (F,R,V,()))) ((if 4294967295<an then 4294967295 else an),E,U,())).bind λ(a3,fp,d9,_)=>
 wr d9 t (dd a3) λf1=>
 Y (.inl (ax (t-1),fp,f1,())) else
 Y (.inr (E,U,()))) (((b:Z)-1),f,bJ b (0:Z),())) J:=by
 have is:ag c=ag (c.take n)+aU n*c[n]:=(by grind [ip,ch]);have ii:=e7 (D.take n);have d0:=g5 (D.take n);rw[fQ,hI aa] at d0;have d1:=D.get (n:=n) aa;have G:0<a:=(by have:=qw (fN n) (aa:0<c[n]);omega);refine ae.steps b (λq z=>∃l j,z=(((b:X):Z)-1-q,j,l,())/\l.length=b/\aQ l/\(∀i,i<b-q->(c1:i<l.length)->l[i]=0)/\j.length=e/\aQ j/\ag j+a*ag l=d/\ag (j.drop (b-q))<a) ⟨bJ b 0,f,ac,ac,aQ.lL _,ac,co,dl,by grind [pg],c2⟩ ?_ ?_
 ·rintro q _ hr ⟨l,j,rfl,aw,S,T,fl,B,a4,K⟩;obtain⟨i,c1⟩:∃i,b=i+1+q:=⟨b-1-q,aa⟩;have aq:((b:X):Z)-1-(q:Z)=(i:Z):=aa;rw[(aa:b-q=i+1)] at K;obtain⟨p,bl⟩:∃p,p=j.take i:=⟨_,bn⟩;obtain⟨h,N⟩:∃h,h=(j.drop i).take (n+2):=⟨_,bn⟩;obtain⟨m,bx⟩:∃m,m=j.drop (i+(n+2)):=⟨_,bn⟩;have L:p.length=i:=(by grind);have i0:h.length=n+2:=(by rw[N,fQ,na];omega);have ds:j=p++(h++m):=by
   grind [aj3,ajM]
  have f6:m.length=e-(i+(n+2)):=(by grind);have d8:aQ p:=(by rw[bl];exact B.take i);have u:aQ h:=(by rw[N];exact(B.drop i).take _);have Q:aQ m:=(by rw[bx];exact B.drop _);have gl:ag (j.drop i)=ag h+aU (n+2)*ag m:=(by grind [List.drop_of_length_le,l6]);have go:ag (j.drop i)=j[i]+4294967296*ag (j.drop (i+1)):=mF aa;have i2:=B.get (n:=i) aa;have ce:=e7 Q;have f7:0<=aU (n+2)*ag m:=m8 (fr (fN _)) ce;have hv:ag (j.drop i)<4294967296*a:=aa;have d2:=e7 u;have ci:ag m=0:=by
   rcases iX 0 (ag m) with o|o
   ·exfalso;have:=jL (aa:1<=ag m) (fr (fN (n+2)));grind [hV]
   omega
  have H:0<=ag h/a:=ai9 d2 aa;have M:ag h/a<4294967296:=am6 G aa;have gs:=ajA (ag h) a;have ic:=akm (ag h) G;have id:=akn (ag h) (aa:a≠0);have O:=u.get (n:=n+1) aa;have d3:=u.get (n:=n) aa;have i1:ax ((i:Z)+al s)=((p.length+(n+1):X):Z):=(by simp only[bf];rw[cL aa aa];omega);have d4:ax (ax ((i:Z)+al s)-1)=((p.length+n:X):Z):=(by rw[i1,cL aa aa];omega);have d5:ax (al s-1)=((n:X):Z):=(by simp only[bf];rw[cL aa aa];omega);obtain⟨em,eq⟩:=FB (x:=h[n+1]) (y:=h[n]) O d3;obtain⟨ex,i8⟩:=E5 (x:=4294967296*h[n+1]+h[n]) (y:=c[n]) ⟨aa,aa⟩ aa;have hi:ag h/a<=(4294967296*h[n+1]+h[n])/c[n]:=(by rw[ak4 aa];have f2:ag h=ag (h.take n)+aU n*(4294967296*h[n+1]+h[n]):=(by grind [FH]);have ap:=g5 (u.take n);rw[air,ajz aa] at ap;have f3:aU n*(ag h/a*c[n])<=ag h:=(by have f4:ag h/a*(aU n*c[n])<=ag h/a*a:=ak5 aa H;grind);have av:aU n*(ag h/a*c[n])<aU n*(4294967296*h[n+1]+h[n]+1):=(by grind);have:=ako av (aiB (fN n));omega);dsimp only;rw[aq,aY (aL (aa:(i:Z)>=0))]
  conv=>arg 1;rw[ds]
  rw[JC (k:=n+1) aa i1];refine ae.bs (by rw[fy O.1 aa];exact em) ?_;rw[JC (k:=n) aa d4];refine ae.bs (by rw[d5];exact e1 aa) ?_;refine ae.bs (by rw[eq,fy d1.1 aa];exact ex) ?_;refine ae.aK (P:=λek=>∃r,ek=(ag h/a,p++(r++m),l,())/\r.length=n+2/\aQ r/\ag r=ag h %a) ?_ ?_
  ·have gt:0<=(4294967296*h[n+1]+h[n])/c[n]:=mb aa aa;refine aiA (λz=>∃o,z=(o,p++(h++m),l,())/\ag h/a<=o/\o<4294967296) (λz=>z.1.toNat) ⟨_,bn,aa,aa⟩ ?_;rintro _ ⟨o,rfl,f5,a0⟩;have ad:=adP (A:=p) (w:=h) (C:=m) (v:=c) (g:=o) D u aa aa ⟨aa,a0⟩;rw[L] at ad;refine ae.aK ad ?_;rintro _ (⟨I,rfl⟩|⟨r,I,rfl,i3,d6,d7⟩)
   ·have hc:ag h/a<o:=by
     grind
    refine bu.2 ⟨⟨o-1,by rw[fy aa aa],aa,aa⟩,?_⟩;show(aM (o-1)).toNat<o.toNat;rw[fy aa aa];omega
   rw[cs] at I d7;have hs:o<=ag h/a:=(ak4 G).2 I;have cv:o=ag h/a:=aa;refine bu.2 ⟨r,by rw[cv],aa,d6,?_⟩;grind
  rintro _ ⟨r,rfl,jp,fs,am⟩;dsimp only;rw[k9 H M,lJ aa];refine bu.2 ⟨l.set i (ag h/a),p++(r++m),?_,by grind,S.set H M,?_,by simp;omega,aQ.append.2 ⟨d8,aQ.append.2 ⟨fs,Q⟩⟩,?_,?_⟩
  ·rw[cL aa aa];grind
  ·grind [List.getElem_set_ne]
  ·rw[mG aa,T i aa aa,l6,l6,L,am];grind [Mj,l6]
  rw[(aa:b-(q+1)=i),r1 aa,qz aa,ir,l6,ci,am];omega
 rintro _ ⟨l,j,rfl,aw,S,T,fl,B,a4,K⟩;have aq:¬(((b:X):Z)-1-(b:Z)>=0):=aa;simp_all [bu,oJ,lP,aI,bP]
end
theorem X3 {n:X} (f:aQ c) (j:e5 c) (t:c.length=n+1):∃d:X,d<=31/\uz (c[n],())=Y ((d:Z),())/\ag c*2^d<aU (n+1)/\2147483648*aU n<=ag c*2^d:=by
 have i:=f.get (n:=n) aa;have m:c[n]≠0:=j _ (by grind);have o:ag c=ag (c.take n)+aU n*c[n]:=(by grind [ip,ch]);have p:=e7 (f.take n);have h:=g5 (f.take n);rw[fQ,hI aa] at h;generalize c[n]=u at*;obtain⟨a,rfl⟩:=gh i.1;have g:0<a:=aa;have r:aN a<=32:=fU.2 aa;have q:=pP g;obtain⟨k,l⟩:=wA g;obtain⟨b,s⟩:∃b,aN a=b+1:=⟨aN a-1,aa⟩;refine⟨32-aN a,aa,?_,?_,?_⟩
 ·unfold uz;refine ai (Im (n:=a) aa) ?_;grind [cL]
 ·have aq:ag c<aU n*2^aN a:=by
   have:aU n*((a:Z)+1)<=aU n*2^aN a:=jL (by grind) (fr (fN _));grind
  have e:ag c*2^(32-aN a)<aU n*2^aN a*2^(32-aN a):=rZ aq (jK _);rw[j3,<-li,(aa:aN a+(32-aN a)=32)] at e;grind [aji,hV]
 have aq:aU n*2^b<=ag c:=(by have:aU n*2^b<=aU n*(a:Z):=jL (by grind) (fr (fN _));omega);have e:aU n*2^b*2^(32-aN a)<=ag c*2^(32-aN a):=m7 aq (fr (jK _));rw[j3,<-li,(aa:b+(32-aN a)=31)] at e;omega
theorem adO (a:aQ c) (e:b<=c.length) (f:ag c<aU b):ag (c.take b)=ag c:=by
 have g:=oC c b e;have h:=e7 (a.drop b);have i:=e7 (a.take b);rcases iX 0 (ag (c.drop b)) with d|d
 ·exfalso;have:=jL (aa:1<=ag (c.drop b)) (fr (fN b));omega
 grind
theorem acg (l:aQ f) (m:aQ c) (I:e5 f) (w:e5 c) (ds:f.length<=1000000) (d0:c.length<=1000000) (co:c≠[]):De (f,c,())=Y (eR (ag f/ag c).toNat,eR (ag f %ag c).toNat,()):=by
 unfold De;refine bQ.1 ?_;have C:=e7 l;have O:0<ag c:=(by have:=e7 m;grind [e5.zero]);refine ae.bs (P6 l m I w aa aa) ?_;dsimp only;rw[cO];refine ae.ite (λs=>?_) λs=>?_
 ·have o:ag f<ag c:=LX.1 s;refine bu.2 ?_;rw[pj C o,rY C o];show(([]:aif),f,())=(eR 0,eR (ag f).toNat,());rw[Hu,<-e5.eq l I]
 have cs:ag c<=ag f:=Int.not_lt.1 (mt LX.2 s);obtain⟨b,D⟩:∃b,c.length=b+1:=(by simp_all [yy]);have aq:ax (al c-1)=((b:X):Z):=(by grind [cL,bf]);obtain⟨d,av,a0,a3,d6⟩:=X3 m w D;have cv:b+1<=f.length:=by
  rcases cQ f.length (b+1) with j|j
  ·have:=qp l m w aa;omega
  omega
 have E:=jK d;refine ae.bs (y:=c[b]) (by grind [e1]) (ae.bs a0 ?_);refine ae.aK (JK l aa (n:=d) aa) ?_;rintro _ ⟨p,rfl,H,G,F⟩;refine ae.aK (JK m aa (n:=d) aa) ?_;rintro _ ⟨K,rfl,ap,dl,am⟩;rw[(aa:d/32=0),am7] at F am;have N:al c=((b+1:X):Z):=(by grind);dsimp only;refine ae.bs (y:=(0,b+1)) ?_ ?_
 ·rw[N,aD,vh,aD,p8 ⟨da _,aa⟩,aD,Jt aa];rfl
 obtain⟨h,V⟩:∃h,h=(K.take (b+1)).drop 0:=⟨_,bn⟩;have ad:h=K.take (b+1):=(by grind);have vb:aQ h:=(by rw[ad];exact ap.take _);have S:ag h=ag c*2^d:=(by grind [adO]);have an:h.length=b+1:=(by grind);have U:1<=h[b]:=by
  have u:ag h=ag (h.take b)+aU b*h[b]:=(by grind [ip,ch]);have k:=g5 (vb.take b);rw[fQ,hI aa] at k;have c1:=fN b;rcases iX h[b] 1 with j|j
  ·exfalso;have:h[b]=0:=(by have:=vb.get (n:=b) aa;omega);grind
  omega
 dsimp only;rw[<-V];refine ae.bs (y:=(h,p,())) ?_ ?_
 ·grind
 obtain⟨g,T⟩:∃g,f.length+1=g+(b+1):=⟨f.length+1-(b+1),aa⟩;have M:ax (al f-al c)=(g:Z)-1:=(by grind [cL,bf]);have a4:aP (ax (al f-al c))=((g:X):Z):=(by grind [ct]);dsimp only;refine ae.bs (y:=g) (by grind [h6]) ?_;have o:ag (p.drop g)<ag c*2^d:=(by have t:=oC p g aa;have x:=e7 (H.take g);rw[G] at t;have u:ag f*2^d<aU f.length*2^d:=ak1 (g5 l) E;have z:aU f.length=aU g*aU b:=(by grind [tF]);have k:aU g*ag (p.drop g)<aU g*(aU b*2^d):=(by grind [Int.mul_assoc]);have v:=ako k (aiB (fN g));have bx:aU b*2^d<=aU b*2147483648:=ak5 (vr av) (aiB (fN _));omega);rw[M];refine ae.aK (P:=λL=>∃e i,L=(i,e,())/\e.length=g/\aQ e/\i.length=f.length+1/\aQ i/\ag i+ag c*2^d*ag e=ag f*2^d/\ag i<ag c*2^d) (acf vb S an a3 U H G F T aa aa o c D λe i t x u z k v=>⟨e,i,bn,t,x,u,z,k,v⟩) ?_;rintro _ ⟨e,i,rfl,aw,d5,d7,J,k,v⟩;have c2:=e7 J;have ce:ag i=2^d*(ag f-ag c*ag e):=(by grind);have Q:0<=ag f-ag c*ag e:=by
  rcases iX (ag f-ag c*ag e) 0 with j|j
  ·have:=am8 E j;omega
  omega
 have R:ag f-ag c*ag e<ag c:=(by simp_all [ako,aiB,aji,ag]);have ci:ag i/2^d=ag f-ag c*ag e:=(by grind [am9]);obtain⟨bl,f2⟩:=E6 (A:=ag f) (B:=ag c) (q:=ag e) (r:=ag f-ag c*ag e) O aa Q R;dsimp only;refine ae.bs (Fl J aa) ?_;dsimp only;refine ae.aK (JL (a:=im i) (n:=d) (Kg i) (by grind [Rj]) aa) ?_;rintro _ ⟨d1,rfl,d2,d3,d4⟩;grind [Kh,ae.bs,Fl,bu,Rj,im]
theorem AU {x y:Z} (n:aN x.natAbs<=3000000) (o:aN y.natAbs<=3000000):pX (aR x,aR y,())=Y (aR (x+y),()):=by
 obtain⟨a,f,r⟩:=hS n;obtain⟨b,g,s⟩:=hS o;unfold pX;dsimp only;refine bQ.1 ?_;refine ae.bs (tr a f aa) (ae.bs (tr b g aa) ?_);dsimp only;have u:=ih x;have v:=ih y;have p:(aR x).1=br (x<0):=rfl;have q:(aR y).1=br (y<0):=rfl;rw[p,q];by_cases m:(br (x<0)==br (y<0))=bp
 ·rw[aY m];refine ae.aK (ab1 a b aa aa) ?_;rintro _ ⟨k,rfl,d,e,l⟩;refine ae.bs (tp d (by grind) e) (bu.2 ?_);grind
 rw[a1 (by grind)];have t:¬(x<0↔y<0):=(by grind);refine ae.bs (P6 a b f g aa aa) ?_;dsimp only;rw[cO];refine ae.ite (λh=>?_) λh=>?_
 ·have j:=BZ.1 h;have i:(aR y).2.1.length<=(aR x).2.1.length:=by
   rcases cQ (aR x).2.1.length (aR y).2.1.length with c|c
   ·have:=qp a b g c;omega
   omega
  refine ae.aK (QA a b aa i j) ?_;rintro _ ⟨k,rfl,d,e,l⟩;refine ae.bs (tp d (by grind) e) (bu.2 ?_);grind
 have j:ag (aR x).2.1<ag (aR y).2.1:=Int.not_le.1 (mt BZ.2 h);have i:(aR x).2.1.length<=(aR y).2.1.length:=by
  rcases cQ (aR y).2.1.length (aR x).2.1.length with c|c
  ·have:=qp b a f c;omega
  omega
 refine ae.aK (QA b a aa i (fr j)) ?_;rintro _ ⟨k,rfl,d,e,l⟩;refine ae.bs (tp d (by grind) e) (bu.2 ?_);grind
theorem Qz (b:aN a.natAbs<=3000000) (c:aN d.natAbs<=3000000):w1 (aR a,aR d,())=Y (aR (a-d),()):=by simp_all [ai,AU,akq,Int.sub_eq_add_neg,Qn,w1]
theorem acz (i:aN a.natAbs<=3000000) (j:aN d.natAbs<=3000000):Dc (aR a,aR d,())=Y (aR (a*d),()):=by
 obtain⟨b,e,m⟩:=hS i;obtain⟨c,f,n⟩:=hS j;unfold Dc;dsimp only;refine bQ.1 ?_;refine ae.bs (tr b e aa) (ae.bs (tr c f aa) ?_);dsimp only;refine ae.aK (acA b c aa aa) ?_;rintro _ ⟨o,rfl,k,l,p⟩;refine ae.bs (tp k (by grind) l) (bu.2 ?_);dsimp only;rw[ih,ih];congr 2;show(if(!(br (a<0)==br (d<0)))=bp then _ else _)=_;rcases ajh a 0 with g|g<;>rcases ajh d 0 with h|h
 ·grind
 ·grind
 ·grind
 grind
theorem JG {n:Z} (b:-9223372036854775808<=n) (c:n<=9223372036854775807):sB (n,())=Y (aR n,()):=by
 unfold sB;dsimp only;obtain⟨a,d,e,f⟩:∃a:Z,a=n.natAbs/\0<=a/\a<=9223372036854775808:=⟨_,bn,aa,aa⟩;refine ai (y:=(a,(bq,([],())),())) ?_ ?_
 ·rw[cO];grind [fy,ct,cL]
 dsimp only;rw[m3,bM,ph a,k9 (x:=a/4294967296) aa aa];refine ai (A4 (aQ.cons.2 ⟨⟨aa,aa⟩,aQ.cons.2 ⟨⟨aa,aa⟩,aQ.nil⟩⟩) ac) ?_;grind [ag,hg]
theorem JJ {z:Z} {n:X} (a:aN z.natAbs<=3000000) (g:n<=10000000):mS (aR z,(n:Z),())=Y (aR (z*2^n),()):=by obtain⟨c,e,f⟩:=hS a;unfold mS;dsimp only;refine bQ.1 ?_;refine ae.bs (x2 a) ?_;dsimp only;rw[aY (aL (aa:(n:Z)>=0))];refine ae.aK (JK c aa (n:=n) aa) ?_;rintro _ ⟨h,rfl,d,b,i⟩;rw[ih] at b;refine ae.bs (tp d (by grind) b) (bu.2 ?_);dsimp only;congr 2;show(if br (z<0)=bp then _ else _)=_;grind
theorem acM (j:aN a.natAbs<=2900000) (q:b<=10000000) (r:0<b):mS (aR a,-(b:Z),())=Y (aR (a/2^b),()):=by
 obtain⟨f,o,p⟩:=hS (z:=a) aa;have i:=jK b;unfold mS;dsimp only;refine bQ.1 ?_;refine ae.bs (x2 aa) ?_;dsimp only;have aq:ax (0- -(b:Z))=(b:Z):=(by grind [cL]);rw[a1 (aI (aa:¬(-(b:Z)>=0))),aq];refine ae.aK (JL f aa (n:=b) aa) ?_;rintro _ ⟨u,rfl,k,e,v⟩;rw[ih] at e|-;dsimp only;refine ae.bs (tp k aa e) ?_;dsimp only;have l:(aR a).1=br (a<0):=rfl;rw[l];have s:0<=(a.natAbs:Z)/2^b:=ai9 aa aa;have t:(a.natAbs:Z)/2^b<=a.natAbs:=akp _ aa;have c:=Ow (m:=a.natAbs) i aa;refine ae.bs (y:=((bq,([],())),aR (a/2^b),())) ?_ (bu.2 bn);by_cases g:a<0
 ·rw[aL g];rw[(aa:-(a.natAbs:Z)=a)] at c;by_cases d:(a.natAbs:Z) %2^b=0
  ·grind
  rw[aL (show(a.natAbs:Z) %2^b≠0 from d)];refine ai bn ?_;dsimp only[bG];rw[cn d] at c;refine ai (JG ab ab) ?_;dsimp only;have h:aN (-((a.natAbs:Z)/2^b)).natAbs<=3000000:=(by rw[fU];have:=fU.1 j;omega);rw[cb bn];refine ai (Qz h ab) ?_;grind
 grind
theorem ab6 (c:aN a.natAbs<=2900000) (e:aN d.natAbs<=2900000):C9 (aR a,aR d,())=Y (fE a d,()):=by unfold C9;refine ai (Qz aa aa) ?_;have b:aN (a-d).natAbs<=3000000:=(by have f:=Tv 2900000 c e;have g:=lv (aa:(a-d).natAbs<=a.natAbs+d.natAbs);omega);refine ai (kI b) ?_;grind [gB,fE]
def Gw (a:aN e<=b) (c:aN l<=b):aN (e+l)<=b+1:=by rw[fU,tV];have:=fU.1 a;have:=fU.1 c;omega
def ach {x y:Z} (o:aN x.natAbs<=3000000) (j:aN y.natAbs<=3000000) (F:0<=x) (c:y≠0):Da (aR x,aR y,())=Y (aR (x/y),aR (x %y),()):=by
 obtain⟨m,p,q⟩:=hS o;obtain⟨n,r,s⟩:=hS j;have w:(aR y).2.1≠[]:=λt=>c (xf.1 t);unfold Da;refine ai (x2 o) (ai (x2 j) ?_);dsimp only;refine ai (acg m n p r aa aa w) ?_;rw[ih,ih];have A:(aR x).1=bq:=aI aa;have C:(aR y).1=br (y<0):=rfl;rw[A,C];have f:0<=(x.natAbs:Z)/(y.natAbs:Z):=ai9 aa aa;have g:(x.natAbs:Z)/(y.natAbs:Z)<=x.natAbs:=akp _ aa;have h:0<=(x.natAbs:Z) %(y.natAbs:Z):=akn _ aa;have i:(x.natAbs:Z) %(y.natAbs:Z)<(y.natAbs:Z):=akm _ aa;have d:∀a:Z,a<=x.natAbs->(eR a.toNat).length<=100000:=λa k=>Bi (l:=(aR x).2.1) m q (by rw[ih];exact k);have e:∀a:Z,a<=y.natAbs->(eR a.toNat).length<=100000:=λa k=>Bi (l:=(aR y).2.1) n s (by rw[ih];exact k);dsimp only;refine ai (tp (oc _) (by have:=d _ g;omega) (uU f)) (ai (tp (oc _) (by have:=e _ (aiB i);omega) (uU h)) ?_);dsimp only;rw[cn (ac:¬(bq=bp))];have aq:(x.natAbs:Z)=x:=aa;rw[aq] at*;have u:x %(y.natAbs:Z)=x %y:=by
  rcases iX y 0 with b|b
  ·rw[(aa:(y.natAbs:Z)=-y),ana]
  rw[(aa:(y.natAbs:Z)=y)]
 rw[u] at*;have D:0<=x %y:=nX _ c;have E:x %y<y.natAbs:=Int.emod_lt x c;have z:aN (x %y).natAbs<=3000000:=(by clear f g h i d e;generalize x %y=B at*;exact ez (lv aa) j);have v:(if(!(bq==br (y<0)))=bp then-(x/(y.natAbs:Z)) else x/(y.natAbs:Z))=x/y:=by
  rcases iX y 0 with b|b
  ·rw[aL b,(aa:(y.natAbs:Z)=-y),anb];simp
  rw[aI (aa:¬y<0),(aa:(y.natAbs:Z)=y)];simp
 rw[v];refine ai (y:=((bq,([],())),(bq,([],())),aR (x/y),aR (x %y),())) ?_ bn;refine ai (kI z) ?_;dsimp only;rw[a1 (aI ?_)];clear f g h i d e;generalize x %y=B at*;unfold gB;split;omega;split<;>omega
def Qi {z:Z} {n:X} (c:aN z.natAbs<=3000000) (e:n<=10000000):zy (aR z,(n:Z),())=Y (br ((z.natAbs:Z) %2^n≠0),()):=by obtain⟨a,b,d⟩:=hS c;unfold zy;dsimp only;refine bQ.1 ?_;refine ae.bs (tr a b aa) ?_;dsimp only;refine ae.aK (JL a aa (n:=n) aa) ?_;rintro _ ⟨f,rfl,g,h,i⟩;rw[ih];exact bu.2 bn
def acx {z:Z} (p:0<=z) (d:z<9223372036854775808):Db (aR z,())=Y (z,bp,()):=by
 have f:aN z.natAbs<=64:=fU.2 aa;obtain⟨b,n,o⟩:=hS (z:=z) aa;have q:(aR z).2.1.length<=2:=zW aa;unfold Db;dsimp only;refine bQ.1 ?_;refine ae.bs (x2 aa) ?_;dsimp only;rw[a1 (aI (show¬(al (aR z).2.1>2) by simp only[bf];omega))];refine ae.aK (P:=λl=>l=(z,aR z,())) ?_ ?_
 ·have k:=ih z;refine ae.steps (aR z).2.1.length (λa m=>m=(ag ((aR z).2.1.take a),(a:Z),aR z,())) rfl ?_ ?_
  ·rintro a _ c rfl;have h:=b.get c;dsimp only;rw[aY (aL (show(a:Z)<al (aR z).2.1 by simp only[bf];omega)),e1 c,bM];have d:=e7 (b.take a);have e:=g5 (b.take a);rw[air,ajz aa,qu] at e;have aq:ax (32*(a:Z))=((32*a:X):Z):=(by rw[cL aa aa];simp);have f:(2:Z)^(32*a)<=4294967296:=by
    rcases(aa:a=0\/a=1) with rfl|rfl<;>decide
   have j:=jK (32*a);have r:(aR z).2.1[a]*2^(32*a)<4294967296*4294967296:=(by have:=jL f h.1;omega);have g:0<=(aR z).2.1[a]*2^(32*a):=m8 h.1 (fr j);rw[aq,fy (x:=(aR z).2.1[a]) aa aa,nT aa aa,aD,fJ,rY g aa,m0 (32*a) d e g aa aa (ak2 _ _),bi aa];refine bu.2 ?_;show(_,_,aR z,())=(_,_,aR z,());rw[ip c,qu,kN (2^(32*a))]
  rintro _ rfl;dsimp only;rw[a1 (aI (show¬(((aR z).2.1.length:Z)<al (aR z).2.1) by simp only[bf];omega)),ch (cd _),k];refine bu.2 ?_;show(((z.natAbs:X):Z),aR z,())=_;rw[(aa:((z.natAbs:X):Z)=z)]
 rintro _ rfl;have i:(aR z).1=bq:=aI aa;dsimp only;rw[i,bP,a1 (aI (aa:¬(z>9223372036854775807))),cL aa aa];exact bu.2 bn
theorem QP (h:aN d.natAbs<=1900000) (f:-1048576<=a) (g:a<=1048576):qZ (aR d,a,())=Y (aR (qk d a),0,()):=by
 rcases iX a 0 with e|e
 ·obtain⟨b,c⟩:∃b:X,a=-(b:Z):=⟨(-a).toNat,aa⟩;subst c;grind [ac4,x7]
 obtain⟨b,c⟩:∃b:X,a=(b:Z):=⟨a.toNat,aa⟩;grind [ac5,nS]
theorem A6 (h:aN d.natAbs<=2900000) (f:-10000000<=a) (g:a<=10000000):mS (aR d,a,())=Y (aR (qk d a),()):=by
 rcases iX a 0 with e|e
 ·obtain⟨b,c⟩:∃b:X,a=-(b:Z):=⟨(-a).toNat,aa⟩;subst c;grind [acM,x7]
 obtain⟨b,c⟩:∃b:X,a=(b:Z):=⟨a.toNat,aa⟩;grind [JJ,nS]
def c7 (a:Z):Z:=if a=0 then 0 else hA a
theorem EJ:cH 0=0:=rfl
theorem hn (a:Z):ay (Y a)=(bq,aR (cH a),c7 a,()):=by
 by_cases b:a=0
 ·subst b;rfl
 rw[MA b,c7,az b]
theorem j1 (b:fI a):aN (cH a).natAbs<=131072:=by
 by_cases c:a=0
 ·subst c;exact b
 grind [X9,fI]
theorem ke (b:fI a):-65536<=c7 a/\c7 a<=65536:=by grind [vK,fI,hA,c7]
theorem Ez (c:fI a):hD (cH a) (c7 a)=Y a:=by
 by_cases b:a=0
 ·subst b;rfl
 rw[c7,az b,XA c]
theorem Ya (c:a=0\/d<=hA a) (g:-65536<=d):cH a*2^(c7 a-d).toNat*2^(d+65536).toNat=a:=by
 by_cases b:a=0
 ·grind [EJ]
 have e:=te a;have f:=c.resolve_left b;rw[c7,az b,j3,<-li];grind [hA,c3]
theorem Mz (z:a≠0) (v:¬(d+c3 a.natAbs< -65536\/65536<d+aN a.natAbs)):ay (hD a d)=(bq,aR (a/2^c3 a.natAbs),d+c3 a.natAbs,())/\(hD a d).isSome=bp:=by
 obtain⟨c,s⟩:∃c,c=qk a (d+65536):=⟨_,bn⟩;have r:hD a d=Y c:=(by simp_all [az,hD]);rw[r];refine⟨?_,bn⟩;obtain⟨h,y⟩:=tz (n:=a.natAbs) aa;have o:=(u6 (n:=a.natAbs) (k:=c3 a.natAbs) aa).1 (bc _);have q:a/2^c3 a.natAbs*2^c3 a.natAbs=a:=Hm o;have A:(a/2^c3 a.natAbs).natAbs=2*h+1:=(by grind [alX,ajX,Av]);generalize x:c3 a.natAbs=e at*;generalize w:a/2^e=j at*;have t:c=j*2^(d+e+65536).toNat:=by
  rw[s,<-q];rcases amU 0 (d+65536) with l|l
  ·obtain⟨b,g⟩:∃b:X,d+65536=b:=⟨(d+65536).toNat,aa⟩;rw[g,nS,j3,<-li];grind
  obtain⟨b,g⟩:∃b:X,d+65536=-(b:Z):=⟨(-(d+65536)).toNat,aa⟩;obtain⟨i,p⟩:∃i:X,e=i+b:=⟨e-b,aa⟩;rw[g,x7,p,li,<-j3,al3 _ (by have:=jK b;omega)];grind
 obtain⟨f,m⟩:∃f:X,d+e+65536=f:=⟨(d+e+65536).toNat,aa⟩;rw[m,fJ] at t;have u:c.natAbs=(2*h+1)*2^f:=(by grind [mv]);have B:c3 c.natAbs=f:=yb u;have C:c≠0:=(by grind);grind [al3,jK,MA,hA,cH]
theorem Qh {m:Z} {n:X} (e:aN m.natAbs<=1900000) (f:n<=1048576):y5 (aR m,(n:Z),())=Y (aR (m/2^n),()):=by
 unfold y5;dsimp only;refine bQ.1 ?_;refine ae.aK (P:=λc=>c=((n:Z),aR m,(bq,([],())),())) ?_ ?_
 ·refine ae.steps 0 (λb a=>a=((n:Z),aR m,(bq,([],())),())) rfl (λb a d=>by omega) ?_;rintro _ rfl;dsimp only;rw[a1 (aI (aa:¬((n:Z)>1048576)))];grind [bu]
 grind [cL,al4,ae.bs,QP,bu,x7]
theorem Aj {m k:Z} (b:aN m.natAbs<=1900000) (c:0<=k) (a:k<=1048576):oU (aR m,k,())=Y (aR (m*2^k.toNat),()):=by unfold oU;refine ai (QP b aa a) ?_;grind [nS,cB]
theorem OB (q:aN a.natAbs<=900000) (o:-1000000000000<=d) (p:d<=1000000000000):pU ((bq,aR a,d,()),())=Y (ay (hD a d),(hD a d).isSome,()):=by
 obtain⟨g,l,m⟩:=hS (z:=a) aa;unfold pU;dsimp only;rw[bP];have f:=X4 (b:=aR a) g aa;rw[oB] at f;refine ai f ?_;refine ai (tv (jF aa)) ?_;dsimp only;rw[gK,cO];split
 ·rename_i c;have:a=0:=by
   grind [gB]
  subst this;rfl
 rename_i c;have e:a≠0:=(by intro d;subst d;exact c bn);have r:=vK (n:=a.natAbs) aa;refine ai (Rt (jF aa) e) ?_;dsimp only;by_cases j:d+c3 a.natAbs< -65536\/65536<d+aN a.natAbs
 ·have k:hD a d=bo:=(by simp_all [az,au,hD]);rw[k];refine ai (y:=.inr (ay bo,bq,())) ?_ bn;refine ai (y:=(bp,(bq,((bq,([],())),((0:Z),()))),aR a,())) ?_ bn;refine ai (wz (jF aa)) ?_;grind [aI,aL,cL]
 obtain⟨h,i⟩:=Mz e j;rw[h,i];refine ai (y:=.inl ((bq,((bq,([],())),((0:Z),()))),aR a,())) ?_ ?_
 ·refine ai (y:=(bq,(bq,((bq,([],())),((0:Z),()))),aR a,())) ?_ bn;refine ai (wz (jF aa)) ?_;grind [aI,cL]
 refine ai (Qh aa aa) ?_;grind [cL]
theorem Aw (b:cM i):pU (ay i,())=Y (ay i,i.isSome,()):=by
 cases i with
 |none=>rfl
 |some c=>
  have a:=b c bn;have d:=j1 a;have e:=ke a;grind [hn,OB,Ez]
def Ev (e:aN d.natAbs<=900000) (b:-1000000000000<=a) (c:a<=1000000000000):us (aR d,a,())=Y (ay (hD d a),()):=by unfold us;exact ai (OB e b c) rfl
def Ho (a:cM i):wK (ay i,())=Y (ay i,()):=by unfold wK;exact ai (Aw a) rfl
def x6 (a:ah9):Z:=gB (a.getD 0)
theorem QN (a:Z):gB (cH a)=gB a:=by
 unfold gB;have:=EI (v:=a);by_cases b:a=0
 ·subst b;rfl
 simp_all [js,az]
def oX (a:cM i):mR (ay i,())=Y (x6 i,()):=by
 unfold mR;refine ai (Aw a) ?_;cases i with
 |none=>exact ai (tv (z:=0) (jF ab)) rfl
 |some b=>
  have c:=j1 (a b bn);rw[hn];refine ai (tv (jF aa)) ?_;show Y (gB (cH b),())=_;rw[QN];rfl
theorem Ki {a b:ah9} (c:cM a) (d:cM b):wM (ay a,ay b,())=Y (ay a,ay b,a.isSome&&b.isSome,()):=by unfold wM;refine ai (Aw c) (ai (Aw d) ?_);grind
def cT (c d:ah9):ah9:=c.bind λa=>d.bind λb=>hD (cH a*cH b) (c7 a+c7 b)
def cK (a b:ah9):ah9:=a.bind λc=>b.bind λd=>pR (c+d)
def c9 (a:ah9):ah9:=a.map λb=>-b
def pL (a:ah9):ah9:=a.map λb=>(b.natAbs:Z)
theorem kC (b c:ah9):cM (cT b c):=by
 intro d a;unfold cT at a;cases b with
 |none=>cases a
 |some e=>cases c with
  |none=>cases a
  |some f=>exact IG _ _ d a
theorem kQ (b c:ah9):cM (cK b c):=by
 intro d a;unfold cK at a;cases b with
 |none=>cases a
 |some e=>cases c with
  |none=>cases a
  |some f=>exact LS _ d a
theorem Ov (b:cM i):cM (c9 i):=by
 intro d a;cases i with
 |none=>cases a
 |some c=>cases a;have:=b c bn;grind [akq,fI]
theorem SS (b:cM i):cM (pL i):=by
 intro d a;cases i with
 |none=>cases a
 |some c=>cases a;have:=b c bn;grind [ak6,fI]
def p0 (a:cM i) (b:cM k):ny (ay i,ay k,())=Y (ay (cT i k),()):=by
 unfold ny;refine ai (Ki a b) ?_;cases i with
 |none=>rfl
 |some c=>
  cases k with
  |none=>rfl
  |some d=>
   have e:=j1 (a c bn);have f:=j1 (b d bn);have g:=ke (a c bn);have h:=ke (b d bn);rw[hn,hn];refine ai (XI aa aa) ?_;dsimp only;rw[cL aa aa];refine ai (Ev ?_ aa aa) rfl;rw[ajY];have:=yQ e f;omega
theorem IV (a:Z):cH (-a)=-cH a:=by have b:=te a;grind [Int.eq_of_mul_eq_mul_right,Int.neg_mul,jK,akq,te,cH,c3]
theorem HA (a:Z):c7 (-a)=c7 a:=by simp_all [az,akq,c7,hA]
theorem X8 (a:Z):cH (a.natAbs:Z)=((cH a).natAbs:Z):=by
 have c:=EI (v:=a);rcases iX a 0 with b|b
 ·grind [IV]
 grind
theorem U4 (a:Z):c7 (a.natAbs:Z)=c7 a:=by grind [HA,ajh]
def Ut (b:cM i):B5 (ay i,())=Y (ay (c9 i),()):=by
 unfold B5;refine ai (Aw b) ?_;cases i with
 |none=>rfl
 |some a=>
  have c:=j1 (b a bn);rw[hn];refine ai (ai (Ox (jF aa)) rfl) ?_;show Y ((bq,aR (-cH a),c7 a,()),())=Y (ay (Y (-a)),());rw[hn,IV,HA]
def iW (a b:Z):Z:=cH a*2^(c7 a-b).toNat
theorem vL {v e:Z} (a:v=0\/e<=hA v) (b:-65536<=e):iW v e*2^(e+65536).toNat=v:=Ya a b
def rO (b:a=0\/d<=hA a) (f:-65536<=d) (g:fI a):aN (iW a d).natAbs<=131072:=by
 have c:=vL b f;have e:(iW a d).natAbs<=a.natAbs:=by
  conv=>rhs;rw[<-c,mv]
  exact ane _ (jx _)
 exact ez (lv e) g
def NM (c:a=0\/d<=hA a) (h:-65536<=d) (i:d<=65536) (b:fI a) (e:d<=c7 a):oU (aR (cH a),c7 a-d,())=Y (aR (iW a d),()):=by have f:=j1 b;have g:=ke b;exact Aj aa aa aa
theorem Od (b:-65536<=a) (c:d=0\/a<=hA d) (e:o=0\/a<=hA o):hD (iW d a+iW o a) a=pR (d+o):=by grind [ak7,vL,EA]
theorem kx (b:d<=c7 a):a=0\/d<=hA a:=by
 by_cases c:a=0
 ·omega
 simp_all [az,c7]
def K9 (f:fI a) (g:fI d):∃b,b<=c7 a/\b<=c7 d/\-65536<=b/\b<=65536/\y3 (ay (Y a),ay (Y d),())=Y (aR (iW a b),aR (iW d b),b,()):=by have h:=ke f;have i:=ke g;refine⟨if c7 d<c7 a then c7 d else c7 a,aa,aa,aa,aa,?_⟩;unfold y3;rw[hn,hn];dsimp only;generalize j:(if c7 d<c7 a then c7 d else c7 a)=b;have aq:b<=c7 a:=aa;have c:b<=c7 d:=aa;have e:-65536<=b:=aa;rw[cL (x:=c7 a-b) aa aa,cL (x:=c7 d-b) aa aa];exact ai (NM (kx aq) e aa f aq) (ai (NM (kx c) e aa g c) rfl)
def Me (e:cM i) (b:cM k):y0 (ay i,ay k,())=Y (ay (cK i k),()):=by
 unfold y0;refine ai (Ki e b) ?_;cases i with
 |none=>rfl
 |some h=>
  cases k with
  |none=>rfl
  |some j=>
   have f:=e h bn;have g:=b j bn;obtain⟨c,aq,d,a,o,n⟩:=K9 f g;have l:=rO (kx aq) a f;have m:=rO (kx d) a g;refine ai n (ai (K6 aa aa) ?_);have b:aN (iW h c+iW j c).natAbs<=131073:=ez (lv (al5 _ _)) (Gw l m);refine ai (Ev aa aa aa) ?_;rw[Od a (kx aq) (kx d)];rfl
def Hp (b:cM i) (a:cM k):wL (ay i,ay k,())=Y (ay (cK i (c9 k)),()):=by unfold wL;exact ai (Ut a) (ai (Me b (Ov a)) rfl)
theorem Km (c:-65536<=a) (h:d=0\/a<=hA d) (i:o=0\/a<=hA o):iW d a<iW o a↔d<o:=by
 have f:=vL h c;have g:=vL i c;have e:=jK (a+65536).toNat;constructor
 ·intro b;have:=rZ b e;omega
 intro b;rw[<-f,<-g] at b;exact Int.lt_of_mul_lt_mul_right b (fr e)
theorem Mf (e:fI d) (f:fI o):y1 (ay (Y d),ay (Y o),())=Y (fE d o,bp,()):=by unfold y1;refine ai (Ki (a:=Y d) (b:=Y o) (λj i=>by grind) (λj i=>by grind)) ?_;obtain⟨m,aq,g,c,n,h⟩:=K9 e f;have k:=rO (kx aq) c e;have l:=rO (kx g) c f;refine ai h (ai (LY aa aa) ?_);grind [Km,kx,fE]
def jq (a:Z):ah9:=hD a 0
def zU (b:-9223372036854775808<=a) (c:a<=9223372036854775807):qY (a,())=Y (ay (jq a),()):=by unfold qY;have d:aN a.natAbs<=64:=fU.2 aa;exact ai (D2 b c) (ai (Ev aa ab ab) rfl)
def j2:et->Z
 |[]=>0
 |d::a=>d.getD 0+j2 a
def mh:et->bA
 |[]=>bp
 |d::a=>d.isSome&&mh a
def qo (a:et):ah9:=if mh a=bp then pR (j2 a) else bo
theorem adz (b:et):cM (qo b):=by
 intro c a;unfold qo at a;split at a
 ·exact LS _ c a
 grind
theorem adT (a b:et):j2 (a++b)=j2 a+j2 b:=by
 induction a with
 |nil=>simp[j2]
 |cons d a c=>grind [j2]
theorem SY (a b:et):mh (a++b)=(mh a&&mh b):=by
 induction a with
 |nil=>simp[mh]
 |cons d a c=>grind [Bool.and_assoc,mh]
def Rh (a:b<r.length):j2 (r.take (b+1))=j2 (r.take b)+(r[b]).getD 0:=by rw[hx,ba a];show j2 (r.take b++[r[b]])=_;rw[adT];simp[j2]
theorem S1 (a:b<r.length):mh (r.take (b+1))=(mh (r.take b)&&(r[b]).isSome):=by grind [SY,cr,bS,mh]
theorem S0 (a:mh r=bp) (d:b<r.length):∃c,r[b]=Y c:=by
 induction r generalizing b with
 |nil=>grind
 |cons f r e=>
  simp only[mh,bk] at a;cases b with
  |zero=>grind [Option.isSome_iff_exists]
  |succ b=>simp_all
theorem SZ (a:b<r.length) (c:r[b]=bo):mh r=bq:=by grind [S0]
theorem iV:(gB a==0)=br (a=0):=by rw[gK,cy];unfold gB;omega
theorem JD {m:Z} {n:X} (e:aN m.natAbs<=1900000) (f:n<=1048576):w4 (aR m,(n:Z),())=Y (aR (m/2^n),()):=by
 unfold w4;dsimp only;refine bQ.1 ?_;refine ae.aK (P:=λc=>c=((n:Z),aR m,(bq,([],())),())) ?_ ?_
 ·refine ae.steps 0 (λb a=>a=((n:Z),aR m,(bq,([],())),())) rfl (λb a d=>by omega) ?_;rintro _ rfl;dsimp only;rw[a1 (aI (aa:¬((n:Z)>1048576)))];grind [bu]
 grind [cL,al4,ae.bs,A6,bu,x7]
theorem Qj {b:pi} {m:Z} (e:aQ b.2.1) (s:b.2.1.length<=100000000) (h:hg b=m) (E:aN m.natAbs<=900000) (w:-1000000000000<=a) (z:a<=1000000000000):oa (b,a,())=Y (ay (hD m a),()):=by
 unfold oa;dsimp only;have g:=Qo e s;rw[h] at g;refine ai g ?_;dsimp only;rw[s3,cO];split
 ·rename_i c;have:=xf.1 c;subst this;rfl
 rename_i c;have f:m≠0:=λa=>c (xf.2 a);have F:=vK (n:=m.natAbs) aa;have D:=pP (m:=m.natAbs) aa;rw[cO];split
 ·rename_i i;have d:hD m a=bo:=(by unfold hD;grind);rw[d];rfl
 rename_i i;refine ai (QB aa f) (ai (AT aa) (ai (JD (m:=(m.natAbs:Z)) (by grind) aa) ?_));have r:=(u6 (n:=m.natAbs) (k:=c3 m.natAbs) aa).1 (cd _);have p:(m.natAbs:Z)/2^c3 m.natAbs=(((m/2^c3 m.natAbs).natAbs:X):Z):=(by grind [Av,xY,ak8]);have o:aN ((m/2^c3 m.natAbs).natAbs)=aN m.natAbs-c3 m.natAbs:=(by rw[Av r,wB]);rw[p];dsimp only;rw[cL (x:=a+(c3 m.natAbs:Z)) aa aa];by_cases q:a+c3 m.natAbs< -65536\/65536<a+aN m.natAbs
 ·have d:hD m a=bo:=(by simp_all [az,au,hD]);rw[d];refine ai (y:=.inr (ay bo,())) ?_ bn;refine ai (y:=(bp,(bq,((bq,([],())),((0:Z),()))),aR ((m/2^c3 m.natAbs).natAbs:Z),())) ?_ bn;by_cases j:a+(c3 m.natAbs:Z)< -65536
  ·grind
  rw[aI j];refine ai (AV (by grind)) ?_;rw[ak6,o];dsimp only;rw[cL aa aa,aL (aa:a+(c3 m.natAbs:Z)+((aN m.natAbs-c3 m.natAbs:X):Z)>65536)]
 obtain⟨l,A⟩:=Mz f q;rw[l];refine ai (y:=.inl ((bq,((bq,([],())),((0:Z),()))),aR ((m/2^c3 m.natAbs).natAbs:Z),())) ?_ ?_
 ·refine ai (y:=(bq,(bq,((bq,([],())),((0:Z),()))),aR ((m/2^c3 m.natAbs).natAbs:Z),())) ?_ bn;rw[aI (aa:¬(a+(c3 m.natAbs:Z)< -65536))];refine ai (AV (by grind)) ?_;grind [cL,aI,ak6]
 dsimp only;congr 3;have t:b.1=br (m/2^c3 m.natAbs<0):=(by have B:(m/2^c3 m.natAbs<0)↔m<0:=EI (v:=m);have C:b.1=br (m<0):=(by have u:=e7 e;unfold hg at h;grind);grind);rw[t];rfl
def vA {e:Z} (d:aN a.natAbs<=900000) (b:-1000000000000<=e) (c:e<=1000000000000):oa (aR a,e,())=Y (ay (hD a e),()):=
 Qj (mj a) (by have:=(hS (z:=a) aa).2.2;omega) (oB a) d b c
def nO {d:ah9} (c:cM d):lY (ay d,())=Y (ay d,()):=by
 cases d with
 |none=>rfl
 |some b=>
  have a:=c b bn;have f:=j1 a;have g:=ke a;unfold lY;rw[hn];refine ai (vA (e:=c7 b) aa aa aa) ?_;rw[Ez a,hn]
theorem q9 (a:ah9):(ay a).1=!a.isSome:=by
 cases a with
 |none=>rfl
 |some b=>rw[hn];rfl
def acj (a:cM i):Dk (ay i,())=Y (x6 i,()):=by
 unfold Dk;refine ai (nO a) ?_;cases i with
 |none=>rfl
 |some b=>
  have c:=j1 (a b bn);rw[hn];refine ai (kI aa) ?_;show Y (gB (cH b),())=_;rw[QN];rfl
theorem aci (b:cM i):Di (ay i,())=Y (ay (c9 i),()):=by
 unfold Di;refine ai (nO b) ?_;cases i with
 |none=>rfl
 |some a=>
  have c:=b a bn;have f:=j1 c;have g:=ke c;rw[hn];refine ai (Qn aa) (ai (vA (e:=c7 a) (by grind) aa aa) ?_);have d:fI (-a):=(by grind [akq,fI]);rw[<-IV,<-HA,Ez d];rfl
theorem P7 (b:cM i):zD (ay i,())=Y (ay (pL i),()):=by
 unfold zD;refine ai (nO b) ?_;cases i with
 |none=>rfl
 |some a=>
  have c:=b a bn;have f:=j1 c;have g:=ke c;rw[hn];refine ai (AT aa) (ai (vA (e:=c7 a) (by grind) aa aa) ?_);have d:fI (a.natAbs:Z):=(by grind [ak6,fI]);rw[<-X8,<-U4,Ez d];rfl
theorem Ru (a:Z):iW 0 a=0:=by unfold iW;rw[EJ,qx]
theorem yc (a:Z):iW a (c7 a)=cH a:=by grind [iW]
theorem K8 (g:fI a) (h:fI d):∃b,(a=0\/b<=hA a)/\(d=0\/b<=hA d)/\-65536<=b/\b<=65536/\sE (ay (Y a),ay (Y d),())=Y (aR (iW a b),aR (iW d b),b,()):=by
 have k:=ke g;have l:=ke h;have i:=j1 g;have j:=j1 h;by_cases c:a=0
 ·subst c;refine⟨c7 d,.inl bn,kx (ajg _),aa,aa,?_⟩;unfold sE;rw[hn,hn];refine ai (kI aa) ?_;grind [iV,aL,Ru,yc]
 by_cases e:d=0
 ·subst e;refine⟨c7 a,kx (ajg _),.inl bn,aa,aa,?_⟩;unfold sE;rw[hn,hn];refine ai (kI aa) ?_;dsimp only;rw[iV,aI (js c)];refine ai (kI aa) ?_;grind [iV,aL,Ru,yc]
 by_cases f:c7 a>c7 d
 ·refine⟨c7 d,kx aa,kx (ajg _),aa,aa,?_⟩;unfold sE;rw[hn,hn];refine ai (kI aa) ?_;dsimp only;rw[iV,aI (js c)];refine ai (kI aa) ?_;dsimp only;rw[iV,aI (js e),aL f,cL aa aa,yc];refine ai (A6 aa aa aa) ?_;grind [nS,iW,c7]
 refine⟨c7 a,kx (ajg _),kx aa,aa,aa,?_⟩;unfold sE;rw[hn,hn];refine ai (kI aa) ?_;dsimp only;rw[iV,aI (js c)];refine ai (kI aa) ?_;dsimp only;rw[iV,aI (js e),aI f,cL (x:=c7 d-c7 a) aa aa,yc];refine ai (A6 aa aa aa) ?_;grind [nS,iW,c7]
theorem AX (h:cM i) (f:cM k):sC (ay i,ay k,())=Y (ay (cK i k),()):=by
 unfold sC;refine ai (nO h) (ai (nO f) ?_);cases i with
 |none=>rfl
 |some a=>
  cases k with
  |none=>dsimp only;rw[hn a];rfl
  |some c=>
   have j:=h a bn;have l:=f c bn;obtain⟨b,aq,g,d,p,o⟩:=K8 j l;have m:=rO aq d j;have n:=rO g d l;refine ai (y:=.inl (ay (Y a),ay (Y c),(bq,((bq,([],())),((0:Z),()))),())) ?_ ?_
   ·grind [q9]
   dsimp only;refine ai o (ai (AU aa aa) ?_);have f:aN (iW a b+iW c b).natAbs<=131073:=cu (lv (al5 _ _)) (Gw m n);refine ai (vA (e:=b) aa aa aa) ?_;rw[Od d aq g];rfl
def E9 (b:cM i) (a:cM k):uI (ay i,ay k,())=Y (ay (cK i (c9 k)),()):=by unfold uI;exact ai (aci a) (ai (AX b (Ov a)) rfl)
def kF (a:cM i) (b:cM k):j8 (ay i,ay k,())=Y (ay (cT i k),()):=by
 unfold j8;refine ai (nO a) (ai (nO b) ?_);cases i with
 |none=>rfl
 |some c=>
  cases k with
  |none=>dsimp only;rw[hn c];rfl
  |some d=>
   have e:=j1 (a c bn);have f:=j1 (b d bn);have g:=ke (a c bn);have h:=ke (b d bn);rw[hn,hn];refine ai bn ?_;dsimp only;refine ai (acz aa aa) ?_;dsimp only;rw[cL aa aa];refine ai (vA ?_ aa aa) rfl;rw[ajY];have:=yQ e f;omega
theorem ace (e:fI o) (f:fI a):Dg (ay (Y o),ay (Y a),())=Y (fE o a,bp,()):=by
 unfold Dg;refine ai (nO (d:=Y o) (λk h=>by grind)) (ai (nO (d:=Y a) (λk h=>by grind)) ?_);obtain⟨n,aq,c,b,p,g⟩:=K8 e f;have l:=rO aq b e;have m:=rO c b f;refine ai (y:=.inl (ay (Y o),ay (Y a),())) ?_ ?_
 ·dsimp only;rw[q9,q9];rfl
 dsimp only;refine ai g (ai (ab6 aa aa) ?_);have i:=Km b aq c;have j:=Km b c aq;dsimp only;unfold fE;simp only[i,j]
def E8 (b:-9223372036854775808<=a) (c:a<=9223372036854775807):uH (a,())=Y (ay (jq a),()):=by unfold uH;have d:aN a.natAbs<=64:=fU.2 aa;exact ai (JG b c) (ai (vA aa ab ab) rfl)
def ack (Q:∀F∈r,cM F) (q:r.length<=1000000):Dl (r.map ay,())=Y (ay (qo r),()):=by
 unfold Dl;refine bQ.1 ?_;dsimp only;have O:∀c:Z,c.natAbs<=r.length*2^131072->aN c.natAbs<=200000:=λc S=>(by refine cu (lv S) ?_;have:aN r.length<=20:=fU.2 aa;have L:aN (2^131072)<=131073:=fU.2 (PJ 131072 131073 ab);have:=yQ this L;omega);have z:∀(c a:Z) (d:X),-65536<=a->d<=r.length->(j2 (r.take d)).natAbs<=d*2^131072->c*2^(a+65536).toNat=j2 (r.take d)->aN c.natAbs<=200000:=λc a d V l j f=>(by refine O c (cu ?_ (Nat.mul_le_mul_right _ l));refine cu ?_ j;rw[<-f,mv];exact ane _ (ajX _));refine ae.aK (P:=λi=>match i with
  |.inl n=>∃a c,n=(a,(bq,((bq,([],())),((0:Z),()))),aR c,())/\mh r=bp/\-65536<=a/\a<=65536/\c*2^(a+65536).toNat=j2 r/\aN c.natAbs<=200000
  |.inr n=>n=(ay (qo r),())) ?_ ?_
 ·refine ae.steps r.length (λd T=>∃a c,T=(a,(d:Z),(bq,((bq,([],())),((0:Z),()))),aR c,())/\mh (r.take d)=bp/\-65536<=a/\a<=65536/\c*2^(a+65536).toNat=j2 (r.take d)/\(j2 (r.take d)).natAbs<=d*2^131072) ⟨0,0,bn,bn,ab,ab,by rw[qx];simp[j2],(da _:(0:X)<=_)⟩ ?_ ?_
  ·rintro d _ l ⟨a,c,rfl,j,f,p,g,o⟩;have w:=Q r[d] (b7 l);have D:=z c a d f aa o g;dsimp only;rw[aY (aL (show(d:Z)<al (r.map ay) by simp only[bf,cg];omega))];refine ae.aK (P:=λi=>match i with
    |.inl n=>∃b a c,r[d]=Y b/\n=(a,(bq,((bq,([],())),((0:Z),()))),aR c,())/\-65536<=a/\a<=65536/\c*2^(a+65536).toNat=j2 (r.take d)+b
    |.inr n=>n=.inr (.inr (ay (qo r),()))) ?_ ?_
   ·refine ae.bs (y:=ay r[d]) ?_ (ae.bs (nO w) ?_)
    ·rw[e1 (by simpa using l),List.getElem_map]
    dsimp only;cases A:r[d] with
    |none=>
     refine ae.bs bn (bu.2 ?_);show _=Sum.inr (Sum.inr (ay (qo r),()));rw[qo,az]
     ·rfl
     rw[SZ l A];simp
    |some b=>
     have s:fI b:=w b A;have ap:=ke s;have am:=j1 s;rw[hn];refine ae.bs (kI aa) ?_;dsimp only;rw[iV];by_cases E:b=0
     ·subst E;rw[aL (show cH 0=0 from rfl)];exact bu.2 ⟨0,a,c,bn,bn,f,p,by rw[g];omega⟩
     rw[aI (js E)];refine ae.bs (kI aa) ?_;dsimp only;rw[iV];by_cases C:c=0
     ·subst C;rw[aL bn];refine bu.2 ⟨b,c7 b,cH b,bn,bn,aa,aa,?_⟩;have:=vL (v:=b) (e:=c7 b) (kx (ajg _)) aa;rw[yc] at this;rw[this,<-g];simp
     rw[aI C];by_cases t:c7 b>=a
     ·rw[aL t,cL aa aa];refine ae.bs (A6 aa aa aa) ?_;have R:qk (cH b) (c7 b-a)=iW b a:=by
       obtain⟨m,q⟩:∃m:X,c7 b-a=m:=⟨(c7 b-a).toNat,aa⟩;rw[q,nS,iW,q];rfl
      have an:=rO (kx t) f s;rw[R];refine ae.bs (AU aa aa) (bu.2 ⟨b,a,c+iW b a,bn,bn,f,p,?_⟩);rw[ak7,g,vL (kx t) f]
     rw[aI t,cL (x:=a-c7 b) aa aa];obtain⟨m,q⟩:∃m:X,a-c7 b=m:=⟨(a-c7 b).toNat,aa⟩;have B:c*2^m*2^(c7 b+65536).toNat=j2 (r.take d):=(by rw[<-g,j3,<-li];congr 2;omega);have ad:=z (c*2^m) (c7 b) d aa aa o B;rw[q];refine ae.bs (A6 aa aa aa) ?_;rw[nS];refine ae.bs (AU aa aa) (bu.2 ⟨b,c7 b,c*2^m+cH b,bn,bn,aa,aa,?_⟩);have:=vL (v:=b) (e:=c7 b) (kx (ajg _)) aa;rw[yc] at this;rw[ak7,B,this]
   rintro(i|i) h
   ·obtain⟨b,G,U,u,rfl,H,I,J⟩:=h;have s:fI b:=w b u;refine bu.2 ⟨G,U,by rw[bi aa],by rw[S1 l,j,u];rfl,H,I,by rw[Rh l,u];exact J,?_⟩;rw[Rh l,u];have M:=al5 (j2 (r.take d)) b;have N:b.natAbs<2^131072:=(fU (k:=131072)).1 s;show(j2 (r.take d)+b).natAbs<=_;have K:=XJ o N;exact ez M K
   have h:i=_:=h;rw[h];exact bu.2 bn
  rintro _ ⟨a,c,rfl,j,f,p,g,o⟩;dsimp only;rw[a1 (aI (show¬((r.length:Z)<al (r.map ay)) by simp only[bf,cg];omega))];have D:=z c a r.length f (cd _) o g;rw[ch (cd _)] at j g;exact bu.2 ⟨a,c,bn,j,f,p,g,D⟩
 rintro(i|i) h
 ·obtain⟨a,c,rfl,j,f,p,g,o⟩:=h;refine ae.bs (vA aa aa aa) (bu.2 ?_);show(ay (hD c a),())=_;rw[EA f g.symm,qo,au j]
 have h:i=_:=h;rw[h];exact bu.2 bn
def cE (a:Z):Z:=a/4503599627370496 %2048
def gr (a:Z):Z:=a %4503599627370496
def eP (a:Z):Prop:=0<=a/\a<18446744073709551616
def a6 (a:Z):ah9:=
 if cE a=2047 then bo
 else hD (if a<9223372036854775808 then if cE a=0 then gr a else gr a+4503599627370496 else-(if cE a=0 then gr a else gr a+4503599627370496)) (if cE a=0 then-1074 else cE a-1075)
theorem gA (b:Z):cM (a6 b):=by
 intro c a;unfold a6 at a;split at a
 ·cases a
 exact IG _ _ c a
def Jq (b:eP a):wO (a,())=Y (cE a,gr a,()):=by unfold wO;dsimp only;have c:=b.1;have d:=b.2;rw[tu ab ab,bM,show(2:Z)^(52:Z).toNat=4503599627370496 from rfl,se 11 aa aa 2047 ab ab,se 52 aa aa 4503599627370495 ab ab,cL aa aa];rfl
theorem Ly (g:eP a):(eT bE a 9223372036854775808 !=0)=br (9223372036854775808<=a):=by
 obtain⟨c,j⟩:=g;obtain⟨b,rfl⟩:=gh c;have f:b<18446744073709551616:=aa;have d:(9223372036854775808:Z)=((2^63:X):Z):=rfl;rw[d,Le f ab,fO];rcases cQ b (2^63) with e|e
 ·have h:b&&&2^63=0:=by
   refine amX λk=>?_;rw[amY,alO,Nat.zero_testBit];grind
  grind
 have h:b&&&2^63≠0:=(by intro i;have c:(b&&&2^63).testBit 63=bq:=(by grind);grind);grind
theorem XP (b:eP a):Cc (a,())=Y (br (9223372036854775808<=a),()):=by grind [Ly,Cc]
theorem Af {f:Z} (a:eP f):nz (f,())=Y (!br (cE f=2047),()):=by simp_all [fO,ai,Jq,nz]
def k1 (a:Z):Z:=if cE a=2047 then if gr a=0 then 2 else 3 else if cE a=0/\gr a=0 then 0 else 1
theorem WC (b:eP a):B9 (a,())=Y (k1 a,()):=by unfold B9 k1;refine ai (Jq b) ?_;grind
theorem xi (a:Z):0<=gr a/\gr a<4503599627370496:=by grind [gr]
theorem zY (a:Z):0<=cE a/\cE a<2048:=by grind [cE]
theorem qb (g:eP a):jT (a,())=Y (ay (a6 a),()):=by
 unfold jT a6;have o:=xi a;have n:=zY a;refine ai (Jq g) ?_;dsimp only;rw[gK,gK];by_cases e:cE a=2047
 ·rw[aL e,au e];rfl
 rw[aI e,az e];obtain⟨b,d,h,i,j,k,l,f⟩:∃b d,(bif br (cE a=0) then some (Sum.inl ((-1074:Z),gr a,((false,((false,([],())),((0:Z),()))):fk),())) else some (.inl (ax (cE a-1075),gk bE (gr a) 4503599627370496,(false,((false,([],())),((0:Z),()))),())):bv ((Z×Z×fk×bt)⊕gV))=some (.inl (d,b,(false,((false,([],())),((0:Z),()))),()))/\0<=b/\b<9007199254740992/\-1074<=d/\d<=972/\(b=(if cE a=0 then gr a else gr a+4503599627370496)/\d=(if cE a=0 then-1074 else cE a-1075)):=by
  by_cases c:cE a=0
  ·refine⟨gr a,-1074,?_,aa,aa,aa,aa,by rw[au c],by rw[au c]⟩;grind
  refine⟨gr a+4503599627370496,cE a-1075,?_,aa,aa,aa,aa,by rw[az c],by rw[az c]⟩;rw[aI c,cL aa aa,m0 52 aa aa aa aa aa ab];rfl
 rw[<-f.1,<-f.2];refine ai h ?_;dsimp only;rw[cL aa aa];have m:aN b.natAbs<=53:=fU.2 aa;refine ai (D2 aa aa) ?_;refine ai (y:=((bq,((bq,([],())),((0:Z),()))),aR (if a<9223372036854775808 then b else-b),())) ?_ ?_
 ·refine ai (XP g) ?_;dsimp only;by_cases c:a<9223372036854775808
  ·grind
  rw[aL (aa:9223372036854775808<=a),az c];exact ai (Ox (jF aa)) rfl
 dsimp only;refine ai (Ev ?_ aa aa) rfl;grind
def oY (d:bA) (a:X) (b:Z) (c:bA):wq:=(d,aR (a:Z),b,c,())
theorem oo (a:X):(a:Z).natAbs=a:=by omega
theorem W6 (e:aN b<=900000) (c:-10000000<=a) (d:a<=10000000):B7 (oY j b a g,())=Y (a+aN b-1,()):=by unfold B7 oY;refine ai (wz (jF (by grind))) ?_;grind [cL,oo]
theorem Uj (o:aN b<=900000) (u:0<b) (B:0<e) (C:e<=10000000):y2 (oY j b a g,(e:Z),())=Y (aR ((b/2^e:X):Z),kt b e g,br (b %2^e=0)&&!g,()):=by
 unfold y2 oY;refine ai (wz (jF (by grind))) ?_;rw[oo];dsimp only;have D:=ajX e;rw[cO];split
 ·rename_i q;have r:b<2^(e-1):=fU.1 aa;obtain⟨c,rfl⟩:∃c,e=c+1:=⟨e-1,aa⟩;simp only[am5] at r;have aq:b %2^(c+1)=b:=Nat.mod_eq_of_lt aa;have h:b/2^(c+1)=0:=al6 aa;rw[aq,h];have i:kt b (c+1) g=-1:=(by unfold kt;omega);rw[i,aI (aa:¬b=0)];rfl
 rename_i q;have w:=akO b (2^e);have E:aN (b/2^e)<=900000:=cu (lv (akr _ _)) o;have F:aN (b %2^e)<=900000:=cu (lv (al7 _ _)) o;have s:b/2^e*2^e<=b:=Nat.div_mul_le_self _ _;refine ai (Qh (m:=(b:Z)) (n:=e) (by grind) aa) ?_;have aq:(b:Z)/2^e=((b/2^e:X):Z):=(by grind);rw[aq];refine ai (Aj (m:=((b/2^e:X):Z)) (k:=(e:Z)) (by grind) aa aa) ?_;have h:((b/2^e:X):Z)*2^(e:Z).toNat=((b/2^e*2^e:X):Z):=(by grind);rw[h];refine ai (adx (x:=(b:Z)) (y:=((b/2^e*2^e:X):Z)) (by grind) (by rw[oo];exact cu (lv s) aa)) ?_;have i:(b:Z)-((b/2^e*2^e:X):Z)=((b %2^e:X):Z):=(by grind);rw[i];refine ai (D2 (n:=1) ab ab) ?_;dsimp only;rw[cL (x:=(e:Z)-1) aa aa];refine ai (Aj (m:=1) (k:=(e:Z)-1) ab aa aa) ?_;obtain⟨c,rfl⟩:∃c,e=c+1:=⟨e-1,aa⟩;have p:(1:Z)*2^(((c+1:X):Z)-1).toNat=((2^c:X):Z):=(by grind);rw[p];have A:aN (2^c)<=900000:=(by have:aN (2^c)<=c+1:=fU.2 (amP ab aa);omega);refine ai (LY (x:=((b %2^(c+1):X):Z)) (y:=((2^c:X):Z)) (by grind) (by grind)) ?_;dsimp only;have v:(if fE ((b %2^(c+1):X):Z) ((2^c:X):Z)=0/\g=bp then 1 else fE ((b %2^(c+1):X):Z) ((2^c:X):Z))=kt b (c+1) g:=by
  unfold kt fE;have t:2^(c+1)=2*2^c:=aa;generalize b %2^(c+1)=f at*;rw[t];generalize 2^c=d at*;rcases r6 f d with l|l|l
  ·rw[au (aa:(f:Z)<(d:Z)),az ac,au aa]
  ·grind
  rw[az (aa:¬((f:Z)<(d:Z))),au (aa:(d:Z)<(f:Z)),az ac,az aa,au aa]
 refine ai (y:=(kt b (c+1) g,aR ((b/2^(c+1):X):Z),aR ((b %2^(c+1):X):Z),())) ?_ ?_
 ·grind
 refine ai (tv (z:=((b %2^(c+1):X):Z)) (jF (by grind))) ?_;grind [aI,aL,iV]
theorem Ay {n:X}:(n≠0/\c3 n=0)↔n %2=1:=by
 constructor
 ·rintro⟨b,c⟩;have:=u6 (n:=n) (k:=1) aa;omega
 intro a;refine⟨aa,?_⟩;have:=u6 (n:=n) (k:=1) aa;omega
theorem XK (m:aN b<=900000) (w:0<b) (G:-1000000<=a-d) (H:a-d<=1000000):B8 (oY j b a g,d,o,())=Y (aR (if j then-((if d<=a then b*2^(a-d).toNat else iI j b (d-a).toNat g o:X):Z) else((if d<=a then b*2^(a-d).toNat else iI j b (d-a).toNat g o:X):Z)),()):=by
 unfold B8;have l:∀e:X,aN e<=2000000->(bB (α:=ls) (
  bif j then
 (sv (aR (e:Z),())).bind λ(E,_)=>
 Y (((bq,([],())):eL),E,()) else
 Y ((bq,([],())),aR (e:Z),())) λ(_,D,_)=>
 Y (D,()))=Y (aR (if j then-(e:Z) else(e:Z)),()):=λe J=>by
  cases j
  ·rfl
  refine ai (y:=((bq,([],())),aR (-(e:Z)),())) ?_ bn;have I:Fit (e:Z)\/True:=.inr trivial;have p:=hS (z:=(e:Z)) (by grind);refine ai (y:=(aR (-(e:Z)),())) ?_ bn;unfold sv;refine ai (yW (by have:=p.2.2;omega)) (ai (wx (mj _) (by have:=p.2.2;omega)) ?_);grind [oB,FF]
 by_cases i:d<=a
 ·rw[au i];obtain⟨c,f⟩:∃c:X,a-d=c:=⟨(a-d).toNat,aa⟩;rw[f,fJ];refine ai (y:=((-1:Z),bp,(bq,([],())),aR ((b*2^c:X):Z),())) ?_ ?_
  ·show(bif br (d<=a) then _ else _)=_;rw[aL i];refine ai (y:=(aR ((b*2^c:X):Z),())) ?_ bn;show oU (aR (b:Z),ax (a-d),())=_;rw[cL aa aa,Aj (by grind [oo]) aa aa,f,fJ,yt,xY]
  refine ai bn (ai bn ?_);exact l _ (ez yR aa)
 rw[az i];obtain⟨c,f⟩:∃c:X,d-a=c:=⟨(d-a).toNat,aa⟩;rw[f,fJ];refine ai (y:=(kt b c g,br (b %2^c=0)&&!g,(bq,([],())),aR ((b/2^c:X):Z),())) ?_ ?_
 ·show(bif br (d<=a) then _ else _)=_;rw[aI i];refine ai (y:=(aR ((b/2^c:X):Z),kt b c g,br (b %2^c=0)&&!g,())) ?_ bn;show y2 (oY j b a g,ax (d-a),())=_;rw[cL aa aa,f];exact Uj m w aa aa
 have A:aN (b/2^c)<=900000:=ez (lv (akr _ _)) m;refine ai (y:=(!(br (b %2^c=0)&&!g)&&vM j (kt b c g) (br (b/2^c %2=1)) o,(bq,([],())),aR ((b/2^c:X):Z),())) ?_ ?_
 ·dsimp only;cases r:(br (b %2^c=0)&&!g) with
  |true=>rfl
  |false=>
   show(bif o==1 then Y (j,_,_,()) else _)=_;unfold vM;rw[gK,gK,gK];by_cases s:o=1
   ·grind
   rw[aI s,az s];by_cases k:o=2
   ·rw[aL k,au k];rfl
   rw[aI k,az k];by_cases t:o=3
   ·grind
   rw[aI t,az t];generalize kt b c g=h;show(bif br (h>0)==bq then _ else _)=_;by_cases v:h>0
   ·grind
   rw[aI v];show(bif (h==0)==bp then _ else _)=_;rw[gK];by_cases u:h=0
   ·rw[aL u];refine ai (tv (z:=((b/2^c:X):Z)) (jF (by grind [oo]))) ?_;dsimp only;have K:=Ay (n:=b/2^c);rw[fO];by_cases F:b/2^c=0
    ·rw[aL (show gB ((b/2^c:X):Z)=0 by rw[F];rfl),aI (aa:¬(b/2^c %2=1))];rfl
    have B:gB ((b/2^c:X):Z)≠0:=(by unfold gB;omega);rw[aI B];refine ai (Rt (z:=((b/2^c:X):Z)) (jF (by grind [oo])) aa) ?_;rw[oo];simp_all [aI,aL,gK,c3]
   grind
 dsimp only;refine ai (y:=((bq,([],())),aR ((iI j b c g o:X):Z),())) ?_ ?_
 ·unfold iI;by_cases r:b %2^c=0/\g=bq
  ·simp_all
  have C:(br (b %2^c=0)&&!g)=bq:=(by grind);rw[az r,C];by_cases q:vM j (kt b c g) (br (b/2^c %2=1)) o=bp
  ·rw[au q,q];refine ai (D2 (n:=1) ab ab) ?_;refine ai (K6 (x:=((b/2^c:X):Z)) (y:=1) (by grind [oo]) ab) ?_;rfl
  simp_all
 refine l _ ?_;have:iI j b c g o<=b/2^c+1:=(by unfold iI;grind);exact ez (lv this) (ez (Gw A (ab:aN 1<=900000)) aa)
def Be (b:0<=a) (c:a<9223372036854775808):uu (a,g,())=Y (mB g a,()):=by
 unfold uu mB;cases g
 ·rfl
 dsimp only;rw[m0 63 b (by exact c) ab aa ab ab,akZ];rfl
theorem PH:Cd (g,a,())=Y (rE g a,()):=by
 unfold Cd rE;dsimp only;refine ai (y:=if(a=3\/(a=1/\g=bq)\/(a=2/\g=bp)) then .inr (mB g 9218868437227405311,()) else .inl ()) ?_ ?_
 ·refine ai (y:=(br (a=3\/(a=1/\g=bq)\/(a=2/\g=bp)),())) ?_ ?_
  ·rw[gK,gK,gK];by_cases e:a=3
   ·grind
   by_cases c:a=1
   ·grind
   by_cases d:a=2
   ·simp_all
   grind
  dsimp only;by_cases b:(a=3\/(a=1/\g=bq)\/(a=2/\g=bp))
  ·rw[aL b,au b];exact ai (Be ab ab) rfl
  grind
 by_cases b:(a=3\/(a=1/\g=bq)\/(a=2/\g=bp))
 ·rw[au b,au b]
 rw[az b,az b];exact ai (Be ab ab) rfl
theorem Kn {neg vg:bA} {e o5:Z} (d:0<b):(if eG b e<=e then b*2^(e-eG b e).toNat else iI neg b (eG b e-e).toNat vg o5)<=9007199254740992:=by
 have f:=fU.1 (bc (aN b));have h:=pP d;have i:e+aN b-53<=eG b e:=(by grind [eG]);split
 ·rename_i c;have a:b*2^(e-eG b e).toNat<2^aN b*2^(e-eG b e).toNat:=Nat.mul_lt_mul_of_pos_right f (jx _);rw[<-kn] at a;have g:2^(aN b+(e-eG b e).toNat)<=2^53:=tU ab aa;omega
 rename_i c;have a:b/2^(eG b e-e).toNat<2^53:=(by rw[akN (jx _),<-kn];grind [Nat.lt_of_lt_of_le,Nat.pow_le_pow_right]);grind [iI]
theorem Qu (s:aN b<=800000) (k:0<b) (q:-500000<=a) (r:a<=500000):y6 (oY g b a j,d,())=Y (l5 g b a j d,()):=by
 have t:=pP k;have u:=Kn (neg:=g) (vg:=j) (o5:=d) (e:=a) k;have o:l5 g b a j d=o8 g (if eG b a<=a then b*2^(a-eG b a).toNat else iI g b (eG b a-a).toNat j d) (eG b a) d:=(by grind [l5]);have p:eG b a=if(-1074:Z)>a+aN b-1-52 then-1074 else a+aN b-1-52:=by grind [eG]
 have w:-1074<=eG b a:=aa;have A:eG b a<=1400000:=aa;unfold y6;refine ai (W6 aa aa aa) ?_;dsimp only;rw[cL aa aa,<-p,o];refine ai (XK aa k ?_ ?_) ?_
 ·omega
 ·omega
 generalize(if eG b a<=a then b*2^(a-eG b a).toNat else iI g b (eG b a-a).toNat j d)=c at*;generalize eG b a=f at*;have v:aN c<=54:=fU.2 aa;have n:(if g then-(c:Z) else(c:Z)).natAbs=c:=aa;refine ai (BK (jF (by grind))) ?_;rw[n];refine ai (Wq (z:=(c:Z)) aa aa) ?_;dsimp only;rw[fy (x:=(c:Z)) aa aa,gK];show bB _ _=Y (o8 g c f d,());unfold o8;by_cases l:c=9007199254740992
 ·rw[aL (aa:(c:Z)=9007199254740992),az (aa:¬c<4503599627370496),au l];refine ai (y:=(f+1,4503599627370496,())) ?_ ?_
  ·grind [ct]
  dsimp only;rw[aI (aa:¬((4503599627370496:Z)<4503599627370496)),cL aa aa,bP,cO];split
  ·rename_i i;exact ai PH bn
  rename_i i;rw[fy aa aa,nT ab ab,show(2:Z)^(52:Z).toNat=4503599627370496 from rfl,aD];have aq:aM (4503599627370496-4503599627370496)=0:=(by grind [fy]);have h:(f+1+1075)*4503599627370496 %18446744073709551616=(f+1+1075)*4503599627370496:=aa;rw[aq,h,AJ,m0 52 ab ab aa ab aa aa,ajB];exact ai (Be aa aa) rfl
 rw[aI (aa:¬(c:Z)=9007199254740992)];refine ai (y:=(f,(c:Z),())) rfl ?_;dsimp only;rw[cO];by_cases m:c<4503599627370496
 ·rw[au (aa:(c:Z)<4503599627370496),au m];exact ai (Be aa aa) rfl
 rw[az (aa:¬(c:Z)<4503599627370496),az m,az l,cL aa aa,cO];split
 ·rename_i i;exact ai PH bn
 rename_i i;rw[fy (x:=f+1075) aa aa,nT ab ab,show(2:Z)^(52:Z).toNat=4503599627370496 from rfl,bM,fy (x:=(c:Z)-4503599627370496) aa aa];have h:(f+1075)*4503599627370496 %18446744073709551616=(f+1075)*4503599627370496:=aa;rw[h,AJ,m0 52 aa aa aa aa aa aa];refine ai (Be aa aa) ?_;dsimp only;congr 3;omega
def gm (c d:ah9) (e:Z):Z:=match c,d with
 |some a,Y b=>if b=0 then 9221120237041090560 else if a=0 then 0 else vt a b e
 |_,_=>9221120237041090560
def Fh (b:ah9) (c:Z):Z:=match b with
 |some a=>if a<0 then 9221120237041090560 else if a=0 then 0 else JH a c
 |none=>9221120237041090560
def xO (a:Z):(aR (cH a)).1=br (a<0):=by show br (cH a<0)=_;rw[cy];exact EI
theorem ab2 (h:fI a) (i:fI d) (z:a≠0) (A:d≠0) (j:Z):∃c e k,B6 (ay (Y a),ay (Y d),56,())=Y (oY (br (a<0)!=br (d<0)) c e k,())/\0<c/\aN c<=800000/\-500000<=e/\e<=500000/\l5 (br (a<0)!=br (d<0)) c e k j=vt a d j:=by
 have q:=j1 h;have r:=j1 i;have s:=ke h;have t:=ke i;have n:0<(cH a).natAbs:=(by grind [js]);have o:0<(cH d).natAbs:=(by grind [js]);obtain⟨b,p⟩:∃b,b=m1 (cH a).natAbs (cH d).natAbs:=⟨_,bn⟩;have v:b<=131131:=(by grind [m1]);have g:58<=aN ((cH a).natAbs*2^b/(cH d).natAbs):=E4 n o (by grind [m1]);have u:aN ((cH a).natAbs*2^b)<=262203:=(by grind [yR]);refine⟨(cH a).natAbs*2^b/(cH d).natAbs,c7 a-b-c7 d,br ((cH a).natAbs*2^b %(cH d).natAbs≠0),?_,?_,?_,aa,aa,?_⟩
 ·unfold B6;rw[hn,hn];refine ai (wz (jF aa)) (ai (wz (jF aa)) (ai (BK (jF aa)) ?_));dsimp only;have aq:(if ax (ax (ax (56+3)+(aN (cH d).natAbs:Z))-(aN (cH a).natAbs:Z))>0 then ax (ax (ax (56+3)+(aN (cH d).natAbs:Z))-(aN (cH a).natAbs:Z)) else 0)=(b:Z):=by
   grind [cL,m1,aN,cH]
  rw[aq];refine ai (Aj (m:=((cH a).natAbs:Z)) (by grind) aa aa) (ai (BK (jF aa)) ?_);have l:((cH a).natAbs:Z)*2^(b:Z).toNat=(((cH a).natAbs*2^b:X):Z):=(by grind);rw[l];refine ai (Us (x:=(((cH a).natAbs*2^b:X):Z)) (y:=((cH d).natAbs:Z)) (by grind) (by grind) aa aa) ?_;rw[<-ak8,<-anf];have w:aN ((cH a).natAbs*2^b %(cH d).natAbs)<=900000:=cu (lv (al7 _ _)) aa;refine ai (tv (jF (by grind))) ?_;dsimp only;rw[cL (x:=c7 a-(b:Z)) aa aa,cL aa aa,xO,xO];grind [iV,aL,aI,gB,cH,decide,oY]
 ·rcases pB ((cH a).natAbs*2^b/(cH d).natAbs) with f|f
  ·rw[f] at g;exact absurd g ab
  omega
 ·exact ez (lv (akr _ _)) aa
 unfold vt rG;rw[<-p];congr 1;unfold c7;omega
theorem VB (e:cM k) (d:cM i):ss (ay k,ay i,a,())=Y (gm k i a,()):=by
 unfold ss;refine ai (Ho e) (ai (Ho d) ?_);dsimp only;rw[q9,q9];cases k with
 |none=>cases i<;>rfl
 |some c=>
  cases i with
  |none=>rfl
  |some b=>
   by_cases f:b=0
   ·subst f;refine ai (y:=.inr (9221120237041090560,())) ?_ bn;refine ai (y:=(bp,ay (Y c),ay (Y 0),())) ?_ bn;refine ai (oX d) ?_;rfl
   by_cases g:c=0
   ·subst g;refine ai (y:=.inr (0,())) ?_ ?_
    ·refine ai (y:=(bq,ay (Y 0),ay (Y b),())) ?_ ?_
     ·refine ai (oX d) ?_;dsimp only;rw[show x6 (Y b)=gB b from rfl,iV,aI f]
     refine ai (oX e) ?_;rfl
    simp_all [az,gm]
   obtain⟨h,j,r,l,m,n,o,p,q⟩:=ab2 (e c bn) (d b bn) g f a;refine ai (y:=.inl (ay (Y c),ay (Y b),())) ?_ ?_
   ·refine ai (y:=(bq,ay (Y c),ay (Y b),())) ?_ ?_
    ·refine ai (oX d) ?_;dsimp only;rw[show x6 (Y b)=gB b from rfl,iV,aI f]
    refine ai (oX e) ?_;dsimp only;rw[show x6 (Y c)=gB c from rfl,iV,aI g];rfl
   simp_all [ai,Qu,az,gm]
theorem acN:q2 (aR 0,())=Y (0,()):=by
 unfold q2;refine ai (tr (l:=[]) aQ.nil (λf b=>by cases b) ab) ?_;refine bQ.1 (ae.aK (P:=λd=>d=.inl ()) ?_ ?_)
 ·refine ae.steps 0 (λc a=>a=((0:Z),())) rfl (λc a e=>by omega) ?_;grind [bu]
 grind [bu]
theorem Qp {n:X} (c:aN n<=900000):∃a,q2 (aR (n:Z),())=Y (a,())/\((a=0/\n≠0)↔n %2=1):=by
 by_cases b:n=0
 ·grind [acN]
 refine⟨(c3 n:Z),?_,?_⟩
 ·grind [oo,QB]
 grind [Ay]
theorem ad8:Dm (g,a,j,d,())=Y (vM g a j d,()):=by unfold Dm vM;grind
theorem ab8 (q:aN b<=800000) (C:e<=1000000):Dh (j,aR (b:Z),(e:Z),g,a,())=Y (aR ((iI j b e g a:X):Z),()):=by
 unfold Dh;have f:∀d:X,(b:Z)/2^d=((b/2^d:X):Z):=λd=>(by rw[<-xY,<-ak8]);have o:∀d:X,br (((b:Z).natAbs:Z) %2^d≠0)=br (b %2^d≠0):=λd=>(by grind);have E:∀d,aN (b/2^d)<=800000:=λd=>cu (lv (akr _ _)) q;refine ai (JD (m:=(b:Z)) (n:=e) (by grind) aa) ?_;rw[f];refine ai (Qi (z:=(b:Z)) (n:=e) (by grind) aa) ?_;rw[o];dsimp only;by_cases v:b %2^e=0/\g=bq
 ·simp_all [au,aI,ai,iI,aR]
 refine ai (y:=.inl ((bq,([],())),aR ((b/2^e:X):Z),())) ?_ ?_
 ·grind
 dsimp only;refine ai (y:=(kt b e g,(bq,([],())),aR ((b/2^e:X):Z),())) ?_ ?_
 ·rw[cO];split
  ·rename_i p;obtain⟨c,rfl⟩:∃c,e=c+1:=⟨e-1,aa⟩;have l:ax (((c+1:X):Z)-1)=(c:Z):=(by grind [cL]);rw[l];refine ai (JD (m:=(b:Z)) (n:=c) (by grind) aa) ?_;rw[f];obtain⟨k,h,t⟩:=Qp (n:=b/2^c) (by grind);have r:=II b c 1;rw[Nat.pow_one] at r;have B:=Nat.mod_lt b (jx c);have D:2^(c+1)=2*2^c:=aa;refine ai (y:=(br (b/2^c %2=1),(bq,([],())),aR ((b/2^(c+1):X):Z),())) ?_ ?_
   ·refine ai h ?_;dsimp only;rw[gK];by_cases w:k=0
    ·rw[aL w];refine ai (kI (z:=((b/2^c:X):Z)) (by grind)) ?_;grind [iV,aL,aI]
    grind
   dsimp only;unfold kt;by_cases s:b/2^c %2=1
   ·rw[aL s];have u:b %2^(c+1)=2^c+b %2^c:=(by grind);rw[u,az aa];cases g
    ·show(bB _ _)=_;refine ai (Qi (z:=(b:Z)) (n:=c) (by grind) aa) ?_;grind
    grind
   grind
  rename_i p;obtain rfl:e=0:=aa;simp_all [au,Nat.pow_zero,Nat.mod_one,kt]
 dsimp only;obtain⟨k,h,t⟩:=Qp (n:=b/2^e) (by grind);refine ai (y:=(br (b/2^e %2=1),(bq,([],())),aR ((b/2^e:X):Z),())) ?_ ?_
 ·refine ai (kI (z:=((b/2^e:X):Z)) (by grind)) ?_;dsimp only;have A:(gB ((b/2^e:X):Z)!=0)=br (b/2^e≠0):=by
   grind [aI,aL,iV]
  grind
 dsimp only;refine ai (y:=((bq,([],())),aR ((iI j b e g a:X):Z),())) ?_ bn;refine ai ad8 ?_;dsimp only;unfold iI;rw[cn v];by_cases i:vM j (kt b e g) (br (b/2^e %2=1)) a=bp
 ·rw[au i,i];refine ai (JG (n:=1) ab ab) ?_;refine ai (AU (x:=((b/2^e:X):Z)) (y:=1) (by grind) ab) ?_;rfl
 grind
def A7 (b:0<=a) (c:a<9223372036854775808):q4 (g,a,())=Y (mB g a,()):=by
 unfold q4 mB;cases g
 ·rfl
 dsimp only;rw[m0 63 b (by exact c) ab aa ab ab,akZ];rfl
theorem Qv:zE (g,a,())=Y (rE g a,()):=by
 unfold zE rE;dsimp only;refine ai (y:=if(a=3\/(a=1/\g=bq)\/(a=2/\g=bp)) then .inr (mB g 9218868437227405311,()) else .inl ()) ?_ ?_
 ·refine ai (y:=(br (a=3\/(a=1/\g=bq)\/(a=2/\g=bp)),())) ?_ ?_
  ·rw[gK,gK,gK];by_cases e:a=3
   ·grind
   by_cases c:a=1
   ·grind
   by_cases d:a=2
   ·simp_all
   grind
  dsimp only;by_cases b:(a=3\/(a=1/\g=bq)\/(a=2/\g=bp))
  ·rw[aL b,au b];exact ai (A7 ab ab) rfl
  grind
 by_cases b:(a=3\/(a=1/\g=bq)\/(a=2/\g=bp))
 ·rw[au b,au b]
 rw[az b,az b];exact ai (A7 ab ab) rfl
theorem ad7 {neg vg:bA} {e o5:Z} (c:0<b) (j:-1074<eG b e):4503599627370496<=(if eG b e<=e then b*2^(e-eG b e).toNat else iI neg b (eG b e-e).toNat vg o5):=by
 obtain⟨f,h⟩:=wA c;have i:=pP c;have k:eG b e=e+aN b-53:=(by grind [eG]);have g:(2:X)^52=4503599627370496:=ab;split
 ·rename_i d;have a:2^(aN b-1)*2^(e-eG b e).toNat<=b*2^(e-eG b e).toNat:=jj _ f;rw[<-kn] at a;grind
 rename_i d;have a:2^52<=b/2^(eG b e-e).toNat:=(by rw[amS (jx _),<-kn];grind);grind [iI]
theorem Qy (t:aN b<=800000) (l:0<b) (C:-500000<=a) (D:a<=500000) (H:j=bp->54<=aN b):zF (g,aR (b:Z),a,j,d,())=Y (l5 g b a j d,()):=by
 have E:=pP l;have F:=Kn (neg:=g) (vg:=j) (o5:=d) (e:=a) l;have q:=ad7 (neg:=g) (vg:=j) (o5:=d) (e:=a) l;have r:l5 g b a j d=o8 g (if eG b a<=a then b*2^(a-eG b a).toNat else iI g b (eG b a-a).toNat j d) (eG b a) d:=(by grind [l5]);have s:eG b a=if(-1074:Z)>a+aN b-1-52 then-1074 else a+aN b-1-52:=by grind [eG]
 have I:-1074<=eG b a:=aa;have J:eG b a<=1400000:=aa;have w:-1000000<=eG b a-a:=aa;have A:eG b a-a<=1000000:=aa;unfold zF;refine ai (AV (z:=(b:Z)) (by grind)) ?_;rw[oo];dsimp only;rw[cL (x:=a+(aN b:Z)) aa aa,cL (x:=a+(aN b:Z)-1) aa aa,cL (x:=a+(aN b:Z)-1-52) aa aa,<-s,r,cO];split
 ·rename_i u;have K:972<=eG b a:=aa;have q:=q aa;refine ai Qv ?_;clear s r w A;generalize(if eG b a<=a then b*2^(a-eG b a).toNat else iI g b (eG b a-a).toNat j d)=f at*;unfold o8;grind
 rename_i u;refine ai (y:=(aR ((if eG b a<=a then b*2^(a-eG b a).toNat else iI g b (eG b a-a).toNat j d:X):Z),())) ?_ ?_
 ·rw[cO];split
  ·rename_i i;obtain⟨h,m⟩:∃h:X,eG b a-a=h:=⟨(eG b a-a).toNat,aa⟩;rw[cL (x:=eG b a-a) aa aa,m,aiT];refine ai (ab8 t aa) ?_;dsimp only;by_cases B:eG b a<=a
   ·have v:h=0:=aa;have G:j=bq:=by
     grind
    rw[au B,v];unfold iI;grind
   grind
  rename_i i;obtain⟨h,m⟩:∃h:X,a-eG b a=h:=⟨(a-eG b a).toNat,aa⟩;rw[cL (x:=a-eG b a) aa aa,au aa,m,fJ];refine ai (JJ (z:=(b:Z)) (n:=h) (by grind) aa) ?_;grind
 generalize(if eG b a<=a then b*2^(a-eG b a).toNat else iI g b (eG b a-a).toNat j d)=f at*;generalize eG b a=c at*;dsimp only;refine ai (acx (z:=(f:Z)) aa aa) ?_;dsimp only;rw[gK];unfold o8;by_cases o:f=9007199254740992
 ·rw[aL (aa:(f:Z)=9007199254740992),az (aa:¬f<4503599627370496),au o];refine ai (y:=(c+1,4503599627370496,())) ?_ ?_
  ·grind [ct]
  dsimp only;rw[cL (x:=c+1+53) aa aa,aL (aa:(4503599627370496:Z)>=4503599627370496)];by_cases i:c+1+1075>=2047
  ·rw[au i];refine ai (y:=.inr (rE g d,())) ?_ bn;refine ai (y:=(bp,())) ?_ (ai Qv bn);grind
  rw[az i];refine ai (y:=.inr (mB g ((c+1+1075)*4503599627370496),())) ?_ bn;refine ai (y:=(bq,())) ?_ ?_
  ·grind
  dsimp only;rw[cL (x:=c+1+1075) aa aa,fy (x:=c+1+1075) aa aa,nT ab ab,show(2:Z)^(52:Z).toNat=4503599627370496 from rfl];have aq:aM (ax (4503599627370496-4503599627370496))=0:=(by grind [cL,fy]);have k:(c+1+1075)*4503599627370496 %18446744073709551616=(c+1+1075)*4503599627370496:=aa;rw[aq,k];show((q4 (g,gk bE ((c+1+1075)*4503599627370496) 0,())).bind _)=_;rw[AJ,m0 52 ab ab aa ab aa aa,ajB];exact ai (A7 aa aa) rfl
 rw[aI (aa:¬(f:Z)=9007199254740992)];refine ai (y:=(c,(f:Z),())) rfl ?_;dsimp only;rw[cL (x:=c+53) aa aa];by_cases p:f<4503599627370496
 ·rw[aI (aa:¬((f:Z)>=4503599627370496)),au p,fy (x:=(f:Z)) aa aa];refine ai (y:=.inl ()) ?_ ?_
  ·grind
  exact ai (A7 aa aa) rfl
 rw[aL (aa:((f:Z)>=4503599627370496)),az p,az o];by_cases i:c+1075>=2047
 ·omega
 rw[az i];refine ai (y:=.inr (mB g ((c+1075)*4503599627370496+((f:Z)-4503599627370496)),())) ?_ bn;refine ai (y:=(bq,())) ?_ ?_
 ·grind
 dsimp only;rw[cL (x:=c+1075) aa aa,fy (x:=c+1075) aa aa,nT ab ab,show(2:Z)^(52:Z).toNat=4503599627370496 from rfl];have aq:aM (ax ((f:Z)-4503599627370496))=(f:Z)-4503599627370496:=(by grind [cL,fy]);have k:(c+1075)*4503599627370496 %18446744073709551616=(c+1075)*4503599627370496:=aa;rw[aq,k];show((q4 (g,gk bE ((c+1075)*4503599627370496) ((f:Z)-4503599627370496),())).bind _)=_;rw[AJ,m0 52 aa aa aa aa aa aa];refine ai (A7 aa aa) ?_;grind
theorem Lc (b:eP a):eJ bE a 52=Y (a/4503599627370496)/\eT bE (a/4503599627370496) 2047=cE a/\eT bE a 4503599627370495=gr a:=by
 have c:=b.1;have d:=b.2;refine⟨?_,?_,?_⟩
 ·grind [tu]
 ·rw[se 11 aa aa 2047 ab ab];rfl
 rw[se 52 aa aa 4503599627370495 ab ab];rfl
theorem A2 (b:eP a):q3 (a,())=Y (!br (cE a=2047),()):=by simp_all [fO,ai,Lc,q3]
theorem acy (b:eP a):Do (a,())=Y (br (9223372036854775808<=a),()):=by grind [Ly,Do]
theorem kG (g:eP a):ku (a,())=Y (ay (a6 a),()):=by
 obtain⟨i,j,k⟩:=Lc g;have t:=xi a;have s:=zY a;unfold ku a6;refine ai (A2 g) ?_;dsimp only;by_cases f:cE a=2047
 ·rw[aL f,au f];rfl
 rw[aI f,az f,show(!!bq)=bq from rfl,bP,i,aD,j,k,cL (x:=cE a) aa aa];obtain⟨c,d,l,n,o,p,q,h⟩:∃c d,(bif br (cE a>0) then some (gk bE (gr a) 4503599627370496,ax (cE a-1075),((false,((false,([],())),((0:Z),()))):fk),()) else some (gr a,(-1074:Z),(false,((false,([],())),((0:Z),()))),()))=some (c,d,(false,((false,([],())),((0:Z),()))),())/\0<=c/\c<9007199254740992/\-1074<=d/\d<=972/\(c=(if cE a=0 then gr a else gr a+4503599627370496)/\d=(if cE a=0 then-1074 else cE a-1075)):=by
  by_cases e:cE a=0
  ·refine⟨gr a,-1074,?_,aa,aa,aa,aa,by rw[au e],by rw[au e]⟩;grind
  refine⟨gr a+4503599627370496,cE a-1075,?_,aa,aa,aa,aa,by rw[az e],by rw[az e]⟩;rw[aL (aa:cE a>0),cL aa aa,m0 52 aa aa aa aa aa ab];rfl
 rw[<-h.1,<-h.2];refine ai l ?_;dsimp only;refine ai (acy g) ?_;rw[m3,bM];dsimp only;rw[ph c,k9 (x:=c/4294967296) aa aa];have r:aN c.natAbs<=53:=fU.2 aa;refine ai (Qj (b:=(br (9223372036854775808<=a),[c %4294967296,c/4294967296],())) (m:=if a<9223372036854775808 then c else-c) (aQ.cons.2 ⟨⟨aa,aa⟩,aQ.cons.2 ⟨⟨aa,aa⟩,aQ.nil⟩⟩) ac ?_ ?_ aa aa) rfl
 ·unfold hg;simp only[ag];grind
 grind
def k5 (a:ah9) (b:Z):Z:=match a with
 |none=>9221120237041090560
 |some c=>x1 c b
theorem JI (d:cM i):w5 (ay i,a,())=Y (k5 i a,()):=by
 unfold w5;refine ai (nO d) ?_;dsimp only;rw[q9];cases i with
 |none=>rfl
 |some b=>
  have e:=d b bn;have h:=j1 e;have j:=ke e;rw[hn];refine ai (kI aa) ?_;dsimp only;rw[iV];unfold k5 x1;by_cases c:b=0
  ·subst c;rw[aL (show cH 0=0 from rfl)];rfl
  rw[aI (js c)];simp only;rw[cn c,bP];have g:0<(cH b).natAbs:=(by grind [js]);refine ai (AT aa) ?_;dsimp only;rw[xO];refine ai (Qy aa g aa aa (λf=>by cases f)) ?_;simp_all [cn,c7]
theorem u3 (a:Z):cM (jq a):=IG a 0
def acu (b:-9223372036854775808<=a) (c:a<=9223372036854775807):Dn (a,d,())=Y (k5 (jq a) d,()):=by unfold Dn;exact ai (E8 b c) (ai (JI (u3 a)) rfl)
theorem acI (g:0<b) (h:0<e) (d:aN b<=131072) (f:aN e<=131072):∃a,m1 b e<=a/\a<=140000/\Dj (aR (b:Z),aR (e:Z),60,())=Y (aR ((b*2^a/e:X):Z),-(a:Z),br (b*2^a %e≠0),()):=by obtain⟨a,i⟩:∃a,a=62+aN e-aN b:=⟨_,bn⟩;have j:a<=131134:=aa;have k:aN (b*2^a)<=262206:=(by grind [yR]);refine⟨a,by grind [m1],aa,?_⟩;unfold Dj;refine ai (AV (z:=(e:Z)) (by grind)) (ai (AV (z:=(b:Z)) (by grind)) ?_);rw[oo,oo];dsimp only;have aq:(if 0>ax (ax (ax (60+2)+(aN e:Z))-(aN b:Z)) then 0 else ax (ax (ax (60+2)+(aN e:Z))-(aN b:Z)))=(a:Z):=(by grind [cL]);rw[aq];refine ai (JJ (z:=(b:Z)) (n:=a) (by grind) aa) ?_;have c:(b:Z)*2^a=((b*2^a:X):Z):=(by grind);rw[c];refine ai (ach (x:=((b*2^a:X):Z)) (y:=(e:Z)) (by grind) (by grind) aa aa) ?_;rw[<-ak8,<-anf];have l:aN (b*2^a %e)<=900000:=cu (lv (al7 _ _)) aa;refine ai (kI (by grind)) ?_;grind [iV,aL,aI,cL,al4]
theorem acw (f:cM k) (g:cM i):Dp (ay k,ay i,a,())=Y (gm k i a,()):=by
 unfold Dp;refine ai (nO f) (ai (nO g) ?_);dsimp only;rw[q9,q9];cases k with
 |none=>cases i<;>rfl
 |some c=>
  cases i with
  |none=>rfl
  |some b=>
   have p:=j1 (f c bn);have q:=j1 (g b bn);have w:=ke (f c bn);have A:=ke (g b bn);rw[hn,hn];by_cases h:b=0
   ·subst h;refine ai (y:=.inr (9221120237041090560,())) ?_ bn;exact ai (kI (z:=cH 0) ab) rfl
   refine ai (y:=.inl ((bq,aR (cH c),c7 c,()),(bq,aR (cH b),c7 b,()),())) ?_ ?_
   ·refine ai (kI (z:=cH b) aa) ?_;grind [iV,aI,js]
   dsimp only;refine ai (kI (z:=cH c) aa) ?_;dsimp only;rw[iV];unfold gm;simp only;rw[cn h];by_cases e:c=0
   ·subst e;rw[aL (show cH 0=0 from rfl)];rfl
   rw[aI (js e),cn e,bP];have l:0<(cH c).natAbs:=(by grind [js]);have m:0<(cH b).natAbs:=(by grind [js]);refine ai (AT aa) (ai (AT aa) ?_);obtain⟨d,u,B,v⟩:=acI l m p q;refine ai v ?_;dsimp only;rw[cL (x:=c7 c-c7 b) aa aa,cL aa aa,xO,xO];have n:58<=aN ((cH c).natAbs*2^d/(cH b).natAbs):=E4 l m (by grind [m1]);have s:0<(cH c).natAbs*2^d/(cH b).natAbs:=by
    rcases pB ((cH c).natAbs*2^d/(cH b).natAbs) with j|j
    ·rw[j] at n;exact absurd n ab
    omega
   have t:aN ((cH c).natAbs*2^d/(cH b).natAbs)<=800000:=cu (lv (akr _ _)) (by grind [yR]);refine ai (Qy t s aa aa (λ_=>by omega)) ?_;have r:=abO (o5:=a) e h u;dsimp only;rw[<-r];unfold rG;have o:c7 c-c7 b+-(d:Z)=hA c-hA b-d:=(by unfold c7;omega);rw[o];rfl
def s8 (a:Z) (b:X):X:=((a %18446744073709551616) %(b:Z)).toNat
theorem ED (a:Z) {n:X} (b:0<n):s8 a n<n:=by simp_all [pk,nX,s8]
theorem At (a:Z) {n:X} (c:0<n) (e:n<=9223372036854775807):sy (a,(n:Z),())=Y ((s8 a n:Z),()):=by unfold sy;have d:=ED a c;have b:(a %18446744073709551616) %(n:Z)=(s8 a n:Z):=(by unfold s8;have:=akn (a %18446744073709551616) (aa:(n:Z)≠0);omega);dsimp only;rw[rR a,fy (x:=(n:Z)) aa aa,(E5 (x:=a %18446744073709551616) (y:=(n:Z)) ⟨aa,aa⟩ aa).2,b];grind [Bj]
theorem aeW (a b:Z):eP (tC bE a b):=by grind [Bl,tC,eP]
theorem Ku (e:aif) (i:e.length<=9223372036854775807) (h:Z):ae (uF (e,h,())) (λb=>eP b.1):=by
 have f:∀a b:Z,0<=b->∃c,eJ bE a b=Y c:=λa b d=>(by unfold eJ;simp_all);unfold uF;dsimp only;refine ae.aK (P:=λ_=>True) ?_ ?_
 ·rw[cO];refine ae.ite (λd=>?_) λd=>bu.2 trivial;simp_all [ae.bs,At,e1,bu,trivial,ED,bf]
 rintro⟨a,_⟩ _;dsimp only;obtain⟨c,g⟩:=f a 31 ab;refine ae.bs g ?_;obtain⟨k,j⟩:=f (aM (tC bE a c*13787848793156543929)) 29 ab;grind [ae.bs,bu,aeW]
theorem QO (b:0<=a) (c:a<9223372036854775808):eP (mB g a):=by grind [mB,eP]
theorem aba (b:bA) (a:Z):eP (rE b a):=by grind [QO,rE]
theorem abd (c:b<=9007199254740992) (e:-1074<=a):eP (o8 g b a d):=by grind [aba,QO,o8]
theorem Qk (c:0<b):eP (l5 j b a g d):=by have f:=Kn (neg:=j) (vg:=g) (o5:=d) (e:=a) c;grind [abd,l5,o8,eG,iI]
def IM:eP 9221120237041090560:=⟨ab,ab⟩
theorem A5 (a:ah9) (c:Z):eP (k5 a c):=by
 unfold k5;cases a with
 |none=>exact IM
 |some d=>
  simp only;unfold x1;by_cases b:d=0
  ·rw[au b];exact⟨ab,ab⟩
  simp_all [az,Qk,js]
theorem AS (j:Z):eP (gm i k j):=by
 unfold gm;cases i with
 |none=>exact IM
 |some a=>
  cases k with
  |none=>exact IM
  |some b=>
   simp only;by_cases c:b=0
   ·rw[au c];exact⟨ab,ab⟩
   by_cases f:a=0
   ·rw[az c,au f];exact⟨ab,ab⟩
   rw[az c,az f];unfold vt rG;have g:0<(cH a).natAbs:=(by grind [js]);have h:0<(cH b).natAbs:=(by grind [js]);have e:58<=aN ((cH a).natAbs*2^m1 (cH a).natAbs (cH b).natAbs/(cH b).natAbs):=E4 g h (by grind [m1]);refine Qk ?_;rcases pB ((cH a).natAbs*2^m1 (cH a).natAbs (cH b).natAbs/(cH b).natAbs) with d|d
   ·rw[d] at e;exact absurd e ab
   omega
theorem PD (a b:Z):eP (gk bE a b):=by grind [Bl,gk,eP]
theorem OC (b:eP a) (c:Z):ae (uE (a,c,())) (λd=>eP d.1):=by
 have e:=b.1;have f:=b.2;unfold uE;dsimp only;refine ae.bs (At c (n:=4) ab ab) ?_;dsimp only;rw[gK,gK,gK,cO];refine ae.ite (λ_=>?_) λ_=>?_
 ·grind [bu,PD,tu,nT]
 rw[cO];refine ae.ite (λ_=>?_) λ_=>?_
 ·simp_all [bu,PD,au,aD,nT,tu,iM]
 rw[cO];refine ae.ite (λ_=>?_) λ_=>?_
 ·refine ae.bs (A2 b) ?_;dsimp only;cases br (cE a=2047)
  ·exact bu.2 b
  exact bu.2 ⟨ab,ab⟩
 unfold G8;refine ae.bs (y:=(k5 (jq (a %19-9)) 0,())) ?_ (bu.2 ?_)
 ·refine ai (y:=a %19) ?_ ?_
  ·simp_all [au,FP,iM]
  dsimp only;rw[cL (x:=a %19) aa aa,cL aa aa];exact ai (acu aa aa) rfl
 grind [A5]
structure gq (rows c0:X) (st mU qr:aif):Prop where
 len:st.length=c0+1
 first:st.getD 0 0=0
 mono:∀j,j<c0->st.getD j 0<=st.getD (j+1) 0
 last:st.getD c0 0=(mU.length:Z)
 val:qr.length=mU.length
 rng:∀j k:X,j<c0->st.getD j 0<=(k:Z)->(k:Z)<st.getD (j+1) 0->0<=mU.getD k 0/\mU.getD k 0<(rows:Z)
 asc:∀j k:X,j<c0->st.getD j 0<(k:Z)->(k:Z)<st.getD (j+1) 0->mU.getD (k-1) 0<mU.getD k 0
theorem gY {i:X} (a:i<c.length):ao c (i:Z)=Y (c.getD i 0):=by rw[e1 a,mT a]
theorem adj (o:c.length<=1000000):CY (c,())=Y (open Classical in decide (∀a,a+1<c.length->c.getD a 0<=c.getD (a+1) 0),()):=by
 classical
 unfold CY;dsimp only;refine bQ.1 (ae.aK (P:=λj=>match j with|.inl _=>(∀a,a+1<c.length->c.getD a 0<=c.getD (a+1) 0)|.inr k=>k=(bq,())/\¬(∀a,a+1<c.length->c.getD a 0<=c.getD (a+1) 0)) ?_ ?_)
 ·refine aiA (λe=>∃b:X,(e.1=(b:Z)\/(e.1=-1/\b=0))/\b<=c.length/\(b<c.length\/c.length=0)/\(∀a,b<=a->a+1<c.length->c.getD a 0<=c.getD (a+1) 0)) (λe=>e.1.toNat) ⟨c.length-1,?_,aa,aa,λa f h=>by omega⟩ ?_
  ·grind [cL,bf]
  rintro⟨l,_⟩ ⟨b,f,h,m,n⟩;dsimp only at f|-;rw[cO];refine ae.ite (λg=>?_) λg=>?_
  ·obtain rfl:l=(b:Z):=aa;obtain⟨d,rfl⟩:∃d,b=d+1:=⟨b-1,aa⟩;have aq:ax (((d+1:X):Z)-1)=(d:Z):=(by grind [cL]);rw[aq];refine ae.bs (gY aa) (ae.bs (gY aa) ?_);refine ae.bs (y:=(br (c.getD (d+1) 0<c.getD d 0),())) (by simp_all [bne_self_eq_false,bM,ur,sr]) ?_;dsimp only;rw[cO];refine ae.ite (λi=>?_) λi=>?_
   ·grind [bu]
   grind [bu,cl]
  grind [bu]
 grind [aij,bu,aiO]
def ki (e:Z) (d b:aif) (c:X):Prop:=∀a:X,d.getD c 0<=(a:Z)->(a:Z)<d.getD (c+1) 0->(if(a:Z)=d.getD c 0 then-1 else b.getD (a-1) 0)<b.getD a 0/\b.getD a 0<e
theorem ki.pos (h:ki a c f b) (i:0<=c.getD b 0):∀d:X,c.getD b 0<=(d:Z)->(d:Z)<c.getD (b+1) 0->0<=f.getD d 0:=by
 intro d
 induction d with
 |zero=>
  intro e g;have:=(h 0 e g).1;omega
 |succ d k=>
  intro e g;have j:=(h (d+1) e g).1;grind
theorem ki.rng (h:0<=c.getD b 0):ki a c f b↔(∀k:X,c.getD b 0<=(k:Z)->(k:Z)<c.getD (b+1) 0->0<=f.getD k 0/\f.getD k 0<a)/\(∀k:X,c.getD b 0<(k:Z)->(k:Z)<c.getD (b+1) 0->f.getD (k-1) 0<f.getD k 0):=by
 constructor
 ·intro g;refine⟨λk d e=>⟨g.pos h k d e,(g k d e).2⟩,λk d e=>?_⟩;have:=(g k aa e).1;omega
 rintro⟨d,e⟩ k i j;refine⟨?_,(d k i j).2⟩;split
 ·grind
 grind
theorem adb {l:aif} {lo hi t:X} (a:hi<=l.length) (b:lo+t<hi):((l.take hi).drop lo).length=hi-lo/\((l.take hi).drop lo)[t]?=Y (l.getD (lo+t) 0):=by grind
theorem adc {l:aif} {lo:X} (a:b<=l.length):((l.take b).drop lo).length=b-lo:=by grind
theorem gq.iff {o:aif}:gq e b c f o↔c.length=b+1/\c.getD 0 0=0/\(∀a,a<b->c.getD a 0<=c.getD (a+1) 0)/\c.getD b 0=(f.length:Z)/\o.length=f.length/\∀a,a<b->ki (e:Z) c f a:=by
 have n:(∀a,a<b->c.getD a 0<=c.getD (a+1) 0)->c.getD 0 0=0->∀a,a<=b->0<=c.getD a 0:=λr q a=>by
  induction a with
  |zero=>omega
  |succ a s=>grind
 constructor
 ·rintro⟨k,g,h,l,m,j,p⟩;exact⟨k,g,h,l,m,λa i=>(ki.rng (n h g a aa)).2 ⟨λd=>j a d i,λd=>p a d i⟩⟩
 rintro⟨k,g,h,l,m,j⟩;exact⟨k,g,h,l,m,λa d i=>((ki.rng (n h g a aa)).1 (j a i)).1 d,λa d i=>((ki.rng (n h g a aa)).1 (j a i)).2 d⟩
section
open Go.Proofs
def Bg:bm (String×DataW bt):=[("math/bits.deBruijn32tab",Lib.tabData .u8 pQ)]
def adM (b:Os) (a:ah6):laidMetH cp Bg ((World.doorLaid cp 400 b).forCall (λ_ _=>0) ⟨#[],a,[]⟩).memory:=
 laidMetH_of_parts3 (fuel:=8) (laidMet_of_run' 8 (by kernel_rfl) (by kernel_rfl)) (by kernel_rfl) (by kernel_rfl)
def adL {b:bC} (c:laidMetH cp Bg b):lg E (λr=>r<b.heap.size) b:=by
 rw[MakeChecks.laidMetH_plain _ _ _ (by kernel_rfl)] at c;have f:cp.globalNamed "math/bits.deBruijn32tab"=Y 0:=(by kernel_rfl);have j:=Lib.tabIs_of_head (g:=0) (t:=301) (e:=5) (n:=32) f (by kernel_rfl) (by kernel_rfl) (by kernel_rfl) (by kernel_rfl) (by kernel_rfl) c;intro q h;have h:q∈[(⟨0,301,.u8,pQ⟩:tZ)]:=h;obtain rfl:=gp.1 h;have s:0<b.heap.size:=by
  have d:=j.cell f 0 ab;unfold ajq at d;split at d
  ·rename_i x w y v;exact(rT.1 v).1
  cases d
 refine⟨bn,_,_,bn,bc _,(λc=>by cases c),.inr ⟨0,0,bn,s,λa p i=>?_⟩⟩;obtain⟨l,i⟩:=hH.1 i;refine⟨[.int .u8 p],bn,λo z m=>?_,bn,bn⟩;have k:=j.cell f a l;have u:(pQ.getD a 0:Z)=p:=(by rw[mT l];exact i);rw[u] at k;cases o with
 |zero=>
  obtain rfl:=gC m;have:(⟨0,0+a*aiG (.int .u8)+0,bo⟩:Addr)=⟨0,a,bo⟩:=(by show(⟨0,0+a*1+0,bo⟩:Addr)=_;congr 1;omega);rw[this];exact k
 |succ o=>cases m
end
end Go.jg
end
